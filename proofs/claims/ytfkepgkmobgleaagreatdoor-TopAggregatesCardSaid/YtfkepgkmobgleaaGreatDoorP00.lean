/- Lemmas for TopZ; tactic blocks in binders fill in some arguments. -/
import Derived.WalkKit
import Derived.KernelRfl
import Derived.Deep.LoopGhost
import Derived.Maps.AppendAt
set_option linter.all false
noncomputable section
namespace Go.Sx
def ao:=@List.getElem?_eq_some_iff
def au:=@if_pos
def ay:=@if_neg
def aC:=@Nat.le_refl
def aD:=@List.getElem?_eq_getElem
def bh:=@List.length_map
def bs:=@decide_eq_true_eq
def bu:=@List.getElem?_set
def bz:=@List.getElem?_map
def bJ:=@Sem.run_bind
def bN:=@List.mem_of_getElem?
def bR:=@Bool.and_eq_true
def bX:=@decide_eq_false_iff_not
def cb:=@Result.andThen_ok
def cx:=@Nat.zero_le
def cZ:=@of_decide_eq_true
def c4:=@Array.getElem?_eq_getElem
def c5:=@Bool.not_eq_true'
def c6:=@beq_iff_eq
def c_:=@List.length_append
def da:=@Sem.run_pure
def dh:=@beq_eq_false_iff_ne
def dk:=@Decidable.not_not
def dw:=@if_true
def dx:=@List.map_append
def dF:=@Nat.le_trans
def dG:=@Bool.and_eq_false_iff
def dH:=@Int.not_lt
def dI:=@Bool.false_eq_true
def dL:=@Bool.not_true
def dN:=@Bool.not_eq_true
def dO:=@Bool.not_eq_false
def dP:=@Bool.not_eq_false'
def dQ:=@Int.not_le
def dR:=@Bool.not_eq_eq_eq_not
def dS:=@Bool.not_false
def dZ:=@decide_eq_decide
def ek:=@if_false
def en:=@run_underlying
def ew:=@List.mem_map
def eF:=@Array.getElem?_toList
def eJ:=@List.mem_append
def eU:=@List.getElem?_append_left
def e7:=@Nat.le_succ
def e8:=@Nat.mul_le_mul_right
def fj:=@Nat.lt_of_lt_of_le
def fw:=@Nat.le_add_right
def fx:=@List.mem_iff_getElem?
def fU:=@congrArg
def fV:=@List.length_set
def gh:=@Int.toNat_natCast
def gr:=@List.getElem?_append
def gE:=@List.mem_cons
def gF:=@Int.le_refl
def gS:=@Nat.eq_of_beq_eq_true
def ir:=@List.all_eq_true
def iE:=@or_false
def iF:=@Array.getElem?_eq_some_iff
def je:=@List.getElem?_take
def iG:=@Bool.true_eq_false
def iH:=@List.map_set
def jf:=@List.getElem?_append_right
def jg:=@Nat.add_mul
def jh:=@List.ext_getElem?
def jE:=@Nat.zero_add
def j8:=@wp_mono
def j9:=@List.take_of_length_le
def lG:=@List.getElem?_toArray
def mI:=@List.map_cons
def k8:=@List.map_congr_left
def mJ:=@Option.some.inj
def mK:=@List.getD_eq_getElem?_getD
def mL:=@List.getElem?_cons_zero
def nw:=@Nat.le_of_ble_eq_true
def ny:=@true_or
def nz:=@or_true
def nA:=@false_or
def nB:=@or_self
def nC:=@Option.map_some
def nD:=@Nat.lt_or_ge
def oC:=@Nat.succ_mul
def oD:=@Int.eq_ofNat_of_zero_le
def oE:=@List.mem_filter
def pF:=@List.getElem?_eq_none
def pG:=@List.mem_range
def pH:=@List.eq_nil_of_length_eq_zero
def pI:=@List.length_cons
def pJ:=@List.map_map
def pK:=@List.length_singleton
def qJ:=@List.length_eraseIdx
def qK:=@List.getElem?_set_self
def qL:=@List.set_set
def qM:=@decide_eq_true
def qN:=@Array.mem_toList_iff
def su:=@heap_alloc_new
def sv:=@List.any_eq_true
def sw:=@List.append_assoc
def sA:=@Nat.add_zero
def sB:=@Nat.add_assoc
def uk:=@Int.tmod_eq_emod_of_nonneg
def ue:=@List.getElem?_inj
def uf:=@Bool.or_eq_true
def ug:=@List.getElem?_zip_eq_some
def uh:=@decide_eq_false
def ui:=@Array.getD_eq_getD_getElem?
def uj:=@List.getElem?_drop
def v7:=@List.not_mem_nil
def v8:=@List.length_nil
def yM:=@List.append_nil
def v_:=@List.eraseIdx_eq_take_drop_succ
def wa:=@List.map_take
def wb:=@List.length_take
def we:=@Nat.sub_self
def wg:=@List.length_filter_le
def wh:=@Nat.sub_zero
def wi:=@wp_cond
def yN:=@List.any_eq_false
def Fk:=@Nat.ble_eq_true_of_le
def Fm:=@List.getElem?_range
def yO:=@List.filter_append
def yP:=@Nat.eq_zero_or_pos
def yQ:=@List.take_length
def yR:=@Array.toArray_toList
def yS:=@IntKind.wrap_i64
def yT:=@Prod.mk.injEq
def BC:=@Option.map_eq_some_iff
def BD:=@List.mem_singleton
def BE:=@List.prefix_refl
def BF:=@IntKind.wrap_u8
def BG:=@Nat.mod_lt
def BH:=@Option.some.injEq
def BI:=@Array.length_toList
def BJ:=@Nat.mul_comm
def BK:=@size_zeroCells
def BL:=@Array.ext'
def BM:=@List.contains_iff_mem
def BN:=@List.map_fst_zip
def Fo:=@run_callFunc_extern
def Fp:=@Array.eq_empty_of_size_eq_zero
def Fq:=@Nat.mod_eq_of_lt
def Ft:=@List.length_range
def Fu:=@List.length_drop
def Fv:=@List.take_append_of_le_length
def Fw:=@Nat.le_succ_of_le
def Fx:=@List.filter_sublist
def Fy:=@Array.getElem?_modify
def Fz:=@Bool.eq_iff_iff
def FA:=@List.foldl_cons
def FB:=@Nat.testBit_two_pow
def FC:=@List.size_toArray
def FD:=@of_decide_eq_false
def FE:=@Option.isSome_iff_exists
def FF:=@grownCap_ge
def FG:=@run_firstCells_some
def FH:=@List.length_replicate
def FI:=@Nat.lt_trichotomy
def FJ:=@List.mem_filterMap
def FK:=@Nat.div_add_mod
def FN:=@Array.ext_getElem?
def Kn:=@setRow_heap
def Ko:=@List.ne_nil_of_mem
def Kp:=@List.map_nil
def Kq:=@List.getElem_mem
def Kr:=@Option.bind_some
def Sc:=@Bool.or_eq_false_iff
def Sd:=@List.map_drop
def Ks:=@List.take_add_one
def Kt:=@List.mem_or_eq_of_mem_set
def Ku:=@Array.getElem?_append_left
def Kv:=@List.eq_nil_or_concat
def Kw:=@List.filter_eq_self
def Kx:=@Nat.min_eq_left
def Ky:=@Nat.testBit_or
def Kz:=@Int.emod_nonneg
def KA:=@Int.emod_lt_of_pos
def KB:=@Nat.shiftLeft_eq
def KC:=@rounds_succ
def KD:=@Array.toList_map
def KE:=@grownCap_le_maxLen
def KF:=@Array.size_append
def KG:=@Nat.mul_ne_zero
def KH:=@decide_true
def KI:=@decide_false
def KJ:=@Bool.true_and
def KK:=@Nat.one_mul
def KL:=@List.mem_cons_of_mem
def Sf:=@setCell_eq_setRow
def Sh:=@List.filter_eq_nil_iff
def Si:=@List.eraseIdx_sublist
def Sj:=@List.range_succ
def Sk:=@List.getElem?_cons_succ
def Sl:=@List.find?_append
def Sm:=@List.mem_of_mem_take
def Sn:=@Nat.pow_lt_pow_right
def Sp:=@Nat.or_lt_two_pow
def Sq:=@Int.ediv_nonneg
def Sr:=@Int.ediv_le_self
def Ss:=@IntKind.wrap_u64
def Su:=@List.mem_of_find?_eq_some
def Sv:=@List.getElem_of_mem
def Sw:=@List.find?_cons
def Sy:=@World.cell?_of_block
def Sz:=@run_equalIn_int
def SA:=@run_eqGuard_agg
def SB:=@List.length_pos_iff
def SC:=@List.nil_append
def SD:=@nextslicecap_zero
def SE:=@Nat.div_lt_of_lt_mul
def SF:=@List.findIdx?_cons
def SG:=@List.nodup_cons
def SH:=@List.filter_cons
def SI:=@Array.mem_iff_getElem
def SJ:=@Option.map_none
def SK:=@Array.getElem?_setIfInBounds_ne
def ad4:=@Array.getElem?_setIfInBounds_self_of_lt
def ad5:=@List.partition_eq_filter_filter
def ad6:=@List.find?_eq_some_iff_getElem
def ad7:=@List.findIdx_lt_length_of_exists
def ad8:=@List.length_filter_lt_length_iff_exists
def ad9:=@List.eq_nil_iff_forall_not_mem
def G{ab:Prop}(h:ab:=by omega):ab:=h
def sM{ab:Prop}(h:ab:=by simp):ab:=h
def sO{ab:Prop}(h:ab:=by simp;omega):ab:=h
def Y{ab:Prop}(h:ab:=by rfl):ab:=h
def aM{ab:Prop}(h:ab:=by assumption):ab:=h
def dC{ab:Prop}(h:ab:=by decide):ab:=h
def rO{ab:Prop}(h:ab:=by simp[Op.operands]):ab:=h
def dM{ab:Prop}(h:ab:=by(dsimp only at*;omega)):ab:=h
def uE{ab:Prop}(h:ab:=by dsimp only;omega):ab:=h
def vd{ab:Prop}(h:ab:=by simp only[c_,pI,v8];omega):ab:=h
def lF{ab:Prop}(h:ab:=by(repeat(first|exact trivial|rfl|(refine⟨rfl,?_⟩;(conv=>whnf))))):ab:=h
def dT{p:Prop}[Decidable p]{ab aZ:Prop}(h:p->ab)(k:¬p->aZ):(decide p=true->ab)/\(decide p=false->aZ):=⟨fun e=>h (cZ e),fun e=>k (FD e)⟩
def lS(x:List Nat):List (Option Nat):=x.map fun|0=>none|n+1=>some n
def kp:=lS [1,0,0,0,0,0,0,8,9,10,11,12,13,14,15,16,17,18,2,3,4,5,6,7]
def OT:=lS [1,0,0,0,0,0,0,8,9,10,11,12,13,14,15,16,17,18,20,21,22,23,24,25]
def auV:=lS [1,2,3,4,5]
def gB:=lS [1,2]
def jx:=lS [1,2,3,4]
def rX:=lS [1,2,3,4,5,6]
def aea:=lS [1,2,3]
def Ay:=lS [1,2,3,4,5,6,7,8,9,10,11,12,13,14,15,16,17]
def D1:=lS [1,2,3,4,5,6,7,8,9,10,11,12,13,14,15,16,17,18,19]
def OX:=lS [1,5,3]
def DZ:=lS [1,2,3,4,5,6,7,8,9,10,11,12]
def X7:=lS [1,2,3,4,5,6,7,8,9,10,11]
def anc:=lS [1,2,3,4,5,6,7,8,9,10,11,12,13,14,15,16,19]
def ane:=lS [1,2,3,4,5,6,0,8,9,10,11,12,13,14,15,16,18]
def X8:=lS [1,0,0,0,0,0,0,8,9,10,11,12,13,14,15,16,17,18,21,22,23,24,25,26]
def OU:=lS [1,2,3,4,5,6,7,8,9,10,11,12,13,14,15,16]
def X9:=lS [1,0,0,0,0,0,0,8,9,10,11,12,13,14,15,16,17,18,2,3,4,27,6,28]
def X_:=lS [1,0,0,0,0,0,0,8,9,10,11,12,13,14,15,16,17,18,2,3,4,5,6,25]
def OV:=lS [1,2,3,4,5,6,7,8,9,10,11,12,13,14,15]
def anf:=lS [1,2,3,4,5,6,0,8,9,10,11,12,13,14,15,16,21]
def Ya:=lS [1,2,3,4,5,6,0,8,9,10,11,12,13,14,15,16,17]
def ang:=lS [1,2,3,4,5,6,0,8,9,10,11,12,13,7]
def awA:=lS [1,2,3,0]
def D0:=lS [1,0]
def Ix:=lS [1,0,3,4,7]
def OW:=lS [1,2,3,4,5,8]
def Yb:=lS [1,2,3,8,5]
def Yc:=lS [1,3]
def Y1{a':Sort _}{a:a'}:a=a/\True:=⟨rfl,trivial⟩
def Y2{a':Sort _}{a:a'}{b':Sort _}{b:b'}:a=a/\b=b/\True:=⟨rfl,rfl,trivial⟩
def Y3{a':Sort _}{a:a'}{b':Sort _}{b:b'}{c':Sort _}{c:c'}:a=a/\b=b/\c=c/\True:=⟨rfl,rfl,rfl,trivial⟩
def Y4{a':Sort _}{a:a'}{b':Sort _}{b:b'}{c':Sort _}{c:c'}{d':Sort _}{d:d'}:a=a/\b=b/\c=c/\d=d/\True:=⟨rfl,rfl,rfl,rfl,trivial⟩
def Y5{a':Sort _}{a:a'}{b':Sort _}{b:b'}{c':Sort _}{c:c'}{d':Sort _}{d:d'}{e':Sort _}{e:e'}:a=a/\b=b/\c=c/\d=d/\e=e/\True:=⟨rfl,rfl,rfl,rfl,rfl,trivial⟩
def Y6{a':Sort _}{a:a'}{b':Sort _}{b:b'}{c':Sort _}{c:c'}{d':Sort _}{d:d'}{e':Sort _}{e:e'}{f':Sort _}{f:f'}:a=a/\b=b/\c=c/\d=d/\e=e/\f=f/\True:=⟨rfl,rfl,rfl,rfl,rfl,rfl,trivial⟩
def Y7{a':Sort _}{a:a'}{b':Sort _}{b:b'}{c':Sort _}{c:c'}{d':Sort _}{d:d'}{e':Sort _}{e:e'}{f':Sort _}{f:f'}{g':Sort _}{u:g'}:a=a/\b=b/\c=c/\d=d/\e=e/\f=f/\u=u/\True:=⟨rfl,rfl,rfl,rfl,rfl,rfl,rfl,trivial⟩
def Y8{a':Sort _}{a:a'}{b':Sort _}{b:b'}{c':Sort _}{c:c'}{d':Sort _}{d:d'}{e':Sort _}{e:e'}{f':Sort _}{f:f'}{g':Sort _}{u:g'}{h':Sort _}{h:h'}:a=a/\b=b/\c=c/\d=d/\e=e/\f=f/\u=u/\h=h/\True:=⟨rfl,rfl,rfl,rfl,rfl,rfl,rfl,rfl,trivial⟩
def C8{R:Prop}{a':Sort _}{a:a'}{b':Sort _}{b:b'}{c':Sort _}{c:c'}{d':Sort _}{d:d'}{e':Sort _}{e:e'}{f':Sort _}{f:f'}{g':Sort _}{u:g'}{h':Sort _}{h:h'}(k:R):a=a/\b=b/\c=c/\d=d/\e=e/\f=f/\u=u/\h=h/\R:=⟨rfl,rfl,rfl,rfl,rfl,rfl,rfl,rfl,k⟩
def ri{α:Type}{P:α->Prop}{s:α}(h:P s):∀x,x=s->P x:=fun _ e=>e▸h
def rj{α β:Type}{P:α->β->Prop}{s:α}{t:β}(h:P s t):∀x y,x=s/\y=t->P x y:=fun _ _ e=>e.1▸e.2▸h
def tK{α:Type}{p:Option α}{a b:α}(h:p=some a)(k:a=b:=by kernel_rfl):p=some b:=h.trans (fU some k)
def ud{ab:Prop}(k:ab:=by rintro _ _ ⟨u0,u1,g2,g3,g4,rfl,rfl⟩;refine B ?_;(refine a6.cm OT _ _ Y Y ⟨u0,u1,g2,g3,g4,rfl,rfl⟩ ?_;(conv=>whnf);(repeat(first|exact trivial|rfl|(refine⟨rfl,?_⟩;(conv=>whnf)))))):ab:=k
def k7{ab:Prop}(k:ab:=by refine bj.of gB Y ?_ Y;refine B ?_;exact lF):ab:=k
def J1{ab:Prop}(k:ab:=by
 refine⟨fun n2=>?_,?_⟩;·refine B ?_;refine a6.of D0 _ _ Y ⟨rfl,rfl⟩ (B ?_);(repeat(first|exact trivial|rfl|(refine⟨rfl,?_⟩;(conv=>whnf))));(repeat(first|exact trivial|rfl|(refine⟨rfl,?_⟩;(conv=>whnf))|(refine⟨by first|assumption|omega|simp,?_⟩;(conv=>whnf))|(first|assumption|(simp;done))))
 refine B ?_;exact a6.of Yc _ _ Y ⟨rfl,rfl⟩ (B lF)):ab:=k
def qI{ab:Prop}(k:ab:=by refine bj.of auV Y ?_ Y;refine B ?_;exact lF):ab:=k
def acx{ab:Prop}(k:ab:=by exact⟨by exact(a_ _ G G).trans sM,wt⟩):ab:=k
def acI{ab:Prop}(k:ab:=by
 rw[kC];refine pC O ak rfl f1 f2 f3 f4 f5 (b:=.fix T0 (cs.take off++(c++cs.drop (off+c.length)))) ⟨_,Kn w u vs _ T0 (0,0) U,?_,fun i s v hs gl=>?_⟩;rw[I9 _ _ _ hle];simp;omega;rw[r8 _ _ _ hle]at hs;have e:(vs.toList.take off++(A y).cells.toList++vs.toList.drop (off+c.length)).toArray[i]?=if off<=i/\i<off+c.length then(A y).cells[i-off]? else vs[i]?:=by have:=r8 vs.toList off (A y).cells.toList sO i;simp only[BI,eF]at this;rw[lG,sw];rw[<-fc]at this;exact this
 rw[e]at gl;split at hs;rename_i am;rw[au am]at gl;have:=fB _ s v hs gl;exact⟨this.1.step hS (aC _),this.2⟩;rename_i am;rw[ay am]at gl;have:=V2 i s v hs gl;exact⟨this.1.step hS (aC _),this.2⟩):ab:=k
def jD{ab:Prop}(k:ab:=by
 cases r with
 |none=>have⟨s,z,o,hz,l8⟩:=Br hT o;cases ok with|false=>exact aN.up (c:=c) ⟨_,_,_,o,fun w X g F A d ty pos after guard O I ap=>.pure (cu (a7 w X g F A O I (ap b sM) z (hz w))) O (l8 _ _ _),sM⟩|true=>exact⟨_,_,_,o,fun w X g F A d ty pos after guard O I ap=>.pure (cu (a7 w X g F A O I (ap b sM) z (hz w))) O (oo (l8 _ _ _) .ff),sM⟩
 |some i=>have⟨e,H,o⟩:=bg o;cases ok with|false=>exact aN.up (c:=c) ⟨_,_,_,o,fun w X g F A d ty pos after guard O I ap=>by have⟨v,hv,D⟩:=a7 w X g F A O I (ap b sM) e H;exact .pure (cu D) O hv,sM⟩|true=>exact⟨_,_,_,o,fun w X g F A d ty pos after guard O I ap=>by have⟨v,hv,D⟩:=a7 w X g F A O I (ap b sM) e H;exact .pure (cu D) O (oo hv .tt),sM⟩):ab:=k
def adw{ab:Prop}(k:ab:=by
 unfold LU at hd;rw[ir]at hd;have:=hd i (pG.2 Q);rw[uf]at this;rcases this with E|E;exact qj.ref i i e (by simpa using E) H hl;right;cases M:h'[i]? with
 |none=>rw[M]at E;simp[LS]at E
 |some b=>
  rw[M]at E;have hbd:b=.dead:=by cases b<;>simp[LS]at E⊢
  subst hbd;have hl:i<V.length:=by rw[aE.len];exact(ao.1 M).1
  have aK:V[i]?=some (V[i]'hl):=aD hl;have I:=aE.ok i _ _ M aK;generalize V[i]=x at aK I;cases x<;>simp only[aB]at I;exact aK):ab:=k
def adx{ab:Prop}(k:ab:=by have e2:(ps.map fun(i,x)=>(i,A x)).toList=ps.toList.map fun p=>(p.1,A p.2):=sM;by_cases lq:n=0;subst lq;have hW:(Array.range (0*i.size)).map (z.cells[· % z.cells.size]!)= #[]:=Fp (by simp);rw[hW]at rG;have l7:∀zero:Array Value,(Array.range 0).map (zero[· % zero.size]!)= #[]:=fun _=>Fp sM;simp only[Instr.buildSlice,bJ,bB hu,cb,run_sizeOf Q,Nat.zero_mul,l7,e2,rG];rfl;refine run_buildSlice w t e n _ vs i z hu Q d8 sO (by have:=Nat.mul_pos (Nat.pos_of_ne_zero lq) dX;omega) ?_;simp_all):ab:=k
def Kf{ab:Prop}(k:ab:=by
 have Q:i<cs.length:=by rw[hl];exact(ao.1 hs).1
 exact kV i _ s (aD Q) hs w X g E' v O hE dW (hc i _ v (aD Q) hv)):ab:=k
def adz{ab:Prop}(k:ab:=by refine a6.of [some 0] _ _ Y ⟨rfl,rfl⟩ (B ?_);exact lF):ab:=k
def yK{ab:Prop}(k:ab:=by exact .inr ⟨y,hy,D w L g A (I y (by subst hy;simp[Op.operands]))⟩):ab:=k
def adC{ab:Prop}(k:ab:=by simp only[cO,ui,Array.getElem?_replicate];split<;>simp):ab:=k
def RS{ab:Prop}(k:ab:=by refine a6.of jx _ _ Y ⟨rfl,rfl⟩ (B ?_);exact lF):ab:=k
def ub{ab:Prop}(k:ab:=by
 refine⟨by simp[hM.1],fun i e m H hm=>?_⟩;rw[gr]at H;rw[Array.getElem?_push]at hm;by_cases Q:i<es.length;rw[au Q]at H;rw[ay (by rw[<-hM.1];omega)]at hm;exact hM.2 i e m H hm;rw[ay Q]at H;have:i-es.length=0:=by have:=(ao.1 H).1;simp at this;omega
 rw[this]at H;simp at H;subst H;rw[au (by rw[<-hM.1];omega)]at hm;grind):ab:=k
def adE{ab:Prop}(k:ab:=by rcases rP i e Q with⟨hir,g9⟩|⟨k,o,Wm⟩;rcases rP j e' hj with⟨Wk,oY⟩|⟨l,hl,hle⟩;exact O.inj i j e e' u g9 oY U bP;exact absurd ⟨l,e',hle,bP⟩ (ct.cU u (Af i e u hir g9 U));rcases rP j e' hj with⟨Wk,oY⟩|⟨l,hl,hle⟩;exact absurd ⟨k,e,Wm,U⟩ (ct.cU u (Af j e' u Wk oY bP));have:=ct.inj k l e e' u Wm hle U bP;grind):ab:=k
def uc{ab:Prop}(k:ab:=by rcases(show j=0\/j=1\/j=2\/j=3\/j=4\/j=5\/j=6\/j=7\/j=8\/j=9\/j=10\/j=11\/j=12\/j=13\/j=14\/j=15 by omega)with rfl|rfl|rfl|rfl|rfl|rfl|rfl|rfl|rfl|rfl|rfl|rfl|rfl|rfl|rfl|rfl<;>rfl):ab:=k
def RU{ab:Prop}(k:ab:=by rcases kS with⟨⟨q,hq⟩,hs⟩|⟨hq,hs⟩;exact⟨_,hq,.inl ⟨⟨q,rfl⟩,hs⟩⟩;exact⟨_,hq,.inr ⟨rfl,hs⟩⟩):ab:=k
def adK{ab:Prop}(k:ab:=by generalize aF:A x=vx at E;cases E with|mp h'=>grind|gN h'=>grind):ab:=k
def adL{ab:Prop}(k:ab:=by
 have Q:i<cs.length:=by rw[hl];exact(ao.1 hs).1
 exact hc i _ s (aD Q) hs w L E' g V v ht hE (co i _ v (aD Q) hv)):ab:=k
def adM{ab:Prop}(k:ab:=by refine bj.of auV Y ?_ Y;refine B ?_;(repeat(first|exact trivial|rfl|(refine⟨rfl,?_⟩;(conv=>whnf))));(repeat(first|exact trivial|rfl|(refine⟨rfl,?_⟩;(conv=>whnf))|(refine⟨by first|exact(Jb h).symm|(rw[Ja,qL])|omega|simp,?_⟩;(conv=>whnf))|(first|exact(Jb h).symm|(rw[Ja,qL])|(simp;done))))):ab:=k
def By{ab:Prop}(k:ab:=by rcases bc j e hj with⟨e1,rfl⟩|⟨a1,hj⟩|⟨e1,rfl⟩<;>rcases bc l e' hl with⟨e2,rfl⟩|⟨a2,hl⟩|⟨e2,rfl⟩;all_goals first|exact o.elim|exact bV.elim|exact O.inj j l e e' k hj hl o bV|exact e1.trans e2.symm|exact absurd (O.inj j b e _ k hj cS o bV) a1|exact absurd (O.inj l b e' _ k hl cS bV o) a2):ab:=k
def RX{ab:Prop}(k:ab:=by rcases bc i e Q with⟨_,rfl⟩|⟨a1,Q⟩|⟨e1,rfl⟩<;>rcases bc j e' hj with⟨_,rfl⟩|⟨a2,hj⟩|⟨e2,rfl⟩;all_goals first|exact o.elim|exact bV.elim|exact O.inj i j e e' k Q hj o bV|exact e1.trans e2.symm|exact absurd (O.inj i b e _ k Q cS o bV) a1|exact absurd (O.inj j b e' _ k hj cS bV o) a2):ab:=k
def adP{ab:Prop}(k:ab:=by refine a6.of gB _ _ Y ⟨rfl,rfl⟩ (B ?_);exact lF):ab:=k
def sr{ab:Prop}(k:ab:=by refine⟨by exact(a_ _ G G).trans sM,?_⟩;exact wt):ab:=k
def adQ{ab:Prop}(k:ab:=by
 refine⟨_,o,fun w X g E' v O hE dW D=>?_,fun w L g V v D=>by cases D<;>constructor<;>assumption⟩;have ai:b<g.length:=by rw[O.len];exact(ao.1 M).1
 have cS:=aD ai;exact Jv cS (O.ok b _ _ M cS) hE (fun u U=>dW b _ u Hy cS U) (fun u U=>O.lt b _ u cS U) D):ab:=k
def adS{ab:Prop}(k:ab:=by
 have qf:(results fn a.tmps).run P w'=.ok (if h:cP.toArray.size=1 then cP.toArray[0]else .tuple cP.toArray) w':=by unfold results;rw[Array.mapM_eq_mapM_toList];simp only[bJ,Sem.run_map,da];erw[a7];rfl
 exact⟨hd,_,qf,_,rfl,s,h',V,o,bQ w' _ V cP.toArray (by simpa using gJ),aE,hS⟩):ab:=k
def Bz{ab:Prop}(k:ab:=by
 have:(xs.map A).toList=[A x]:=by rw[KD,bv];rfl
 grind):ab:=k
def adT{ab:Prop}(k:ab:=by intro w A u off vs t0 hp hl cX U fd;have bQ:=yw (P:=P) u off t0 (A y).cells.toList 0 vs w U sO cX;simp only[sA,BI,<-hl]at bQ;simp only[Instr.storeAt,hp,Instr.sureAddr,storeVar,bJ,da,cb,hn w];rw[ay (by omega)];exact bQ):ab:=k
def BA{ab:Prop}(k:ab:=by refine bj.of rX Y ?_ Y;refine B ?_;exact lF):ab:=k
def v6{ab:Prop}(k:ab:=by refine bj.of aea Y ?_ Y;refine B ?_;exact lF):ab:=k
def Fi{ab:Prop}(k:ab:=by generalize aF:A x=vx at E;cases E with|mp h'=>simp_all|gN h'=>simp_all):ab:=k
def BB{ab:Prop}(k:ab:=by
 refine⟨_,o,fun w X g E' v O hE dW D=>?_,fun w L g V v D=>?_⟩;cases D with|agg dg I hc=>refine .agg (hl▸dg) I fun i s v hs hv=>?_;exact Kf
 cases D with|agg dg I hc=>exact .agg dg I fun i s v hs hv=>dp s (bN hs) w L g V v (hc i s v hs hv)):ab:=k
def adV{ab:Prop}(k:ab:=by refine⟨by rw[bv];rfl,hs w L g A (I x0 ?_),hx w L g A (I y0 ?_)⟩;simp[Op.operands,Call.operands,bv];simp[Op.operands,Call.operands,bv]):ab:=k
def RZ{ab:Prop}(k:ab:=by refine⟨E,F,h3,h4,vs,h5,h6,fun i e H=>⟨(h7 i e H).1,fun j s hs=>?_⟩⟩;have⟨v,a,b,c⟩:=(h7 i e H).2 j s hs;exact⟨v,a,b.le hE [],c⟩):ab:=k
def Kj{ab:Prop}(k:ab:=by
 refine⟨_,o,fun w X g E' v O hE dW D=>?_,fun w L g V v D=>?_⟩;cases D with|tup dg hc=>refine .tup (hl▸dg) fun i s v hs hv=>?_;exact Kf
 cases D with|tup dg hc=>exact .tup dg fun i s v hs hv=>dp s (bN hs) w L g V v (hc i s v hs hv)):ab:=k
def Kk{ab:Prop}(k:ab:=by exact⟨E,F,h3,h4,vs,h5,h6,fun i e H=>⟨(h7 i e H).1,fun j s hs=>by obtain⟨v,a,b,c⟩:=(h7 i e H).2 j s hs;exact⟨v,a,b.le hE [],c⟩⟩⟩):ab:=k
def adX{ab:Prop}(k:ab:=by simp only[Builtin.len_,iS,lG,mL,bJ,bB hu,cb,hv,da,goInt]):ab:=k
def adY{ab:Prop}(k:ab:=by subst e2;rw[e1]at D;refine Jv cS (O.ok b _ _ M cS) hE (fun u U hx=>?_) (fun u U=>O.lt b _ u cS U) D;rcases hx with hx|I;exact O.cU u hx ⟨b,_,cS,U⟩;have⟨j,e,cW,H,bP⟩:=br u I;exact cW (O.inj j b e _ u H cS bP U)):ab:=k
def Kl{ab:Prop}(k:ab:=by exact a6.of gB _ _ Y ⟨rfl,rfl⟩ (B lF)):ab:=k
def adZ{ab:Prop}(k:ab:=by exact⟨h0,vs,E,F,fun i s v hs hv=>⟨(h3 i s v hs hv).1.le hE [],(h3 i s v hs hv).2⟩⟩):ab:=k
def ad0{ab:Prop}(k:ab:=by refine a6.of aea _ _ Y ⟨rfl,rfl⟩ (B ?_);exact lF):ab:=k
def R9{ab:Prop}(k:ab:=by rcases eJ.1 D with D|D;exact b r D;simp at D;subst D;exact⟨by simp_all,by simp_all,by simp_all⟩):ab:=k
def R_{ab:Prop}(k:ab:=by rw[bu,ay mW,bu,au rfl,au];exact(ao.1 (lR O cE)).1):ab:=k
def ad1{ab:Prop}(k:ab:=by
 have E:fn.name≠ "runtime.NumGoroutine" :=by simpa using hn
 simp[callFunc,hf,E,M]):ab:=k
def ad2{ab:Prop}(k:ab:=by exact⟨ms,E,F,fun i e m H bq=>⟨(h3 i e m H bq).1.le hE [],(h3 i e m H bq).2.1.le hE [],(h3 i e m H bq).2.2⟩⟩):ab:=k
def Sb{ab:Prop}(k:ab:=by
 have z6:es[q]?=some e':=by rw[je]at hq;split at hq;exact hq;simp at hq
 have⟨a1,a2⟩:=h7 q e' z6;refine⟨a1,fun ag s hs=>?_⟩;have⟨v,c1,c2,c3⟩:=a2 ag s hs;exact⟨v,c1,c2.hP hS,c3⟩):ab:=k
def Ru{ab:Prop}(k:ab:=by exact⟨iX,ms,E,F,fun i e m H bq=>⟨(h3 i e m H bq).1,(h3 i e m H bq).2.1.le hE [],(h3 i e m H bq).2.2⟩⟩):ab:=k
def J2{ab:Prop}(k:ab:=by exact⟨ms,E,F,fun i e m H hm=>⟨(h3 i e m H hm).1.le hE [],(h3 i e m H hm).2.1.le hE [],(h3 i e m H hm).2.2⟩⟩):ab:=k
def ab1{ab:Prop}(k:ab:=by
 rw[hv];have aj7:seen.toArray.back?=some m4:=by rw[List.back?_toArray];exact oZ
 simp only[Instr.entry,getObj,bJ,Sem.run,U,p6,Result.andThen,aj7,Hk,bne_self_eq_false,dI,ek,hf];rfl):ab:=k
def ab2{ab:Prop}(k:ab:=by exact a6.of auV _ _ Y ⟨rfl,rfl⟩ (B lF)):ab:=k
def Rv{ab:Prop}(k:ab:=by exact⟨iX,ms,E,F,fun i e m H hm=>⟨(h3 i e m H hm).1,(h3 i e m H hm).2.1.le hE [],(h3 i e m H hm).2.2⟩⟩):ab:=k
def ab3{ab:Prop}(k:ab:=by rw[iO,ay,E];rcases nD k i with ai|hk;have:=e8 sz ai;rw[oC]at this;omega;have:=e8 sz (show i+1<=k by omega);rw[oC]at this;omega):ab:=k
def Bs{ab:Prop}(k:ab:=by have F:=h;simp only[Tb.has,bR,bs]at F;have:=F.1;rw[bh];omega):ab:=k
def Rw{ab:Prop}(k:ab:=by (refine a6.cm kp _ _ Y Y ⟨{S with t:=t1},e1,CS.up (e7 z) hz (fw b 64) M,cY.1.s,cY.1.bE,rfl,rfl⟩ ?_;(conv=>whnf);(repeat(first|exact trivial|rfl|(refine⟨rfl,?_⟩;(conv=>whnf)))))):ab:=k
def ab4{ab:Prop}(k:ab:=by refine B ?_;refine⟨sM,?_⟩;exact wt):ab:=k
def ab6{ab:Prop}(k:ab:=by have⟨ct,i8⟩:=O.fresh;have⟨V,aE,ca⟩:=hs w X _ ct;exact⟨V,aE,i8.trans (ca.le sM)⟩):ab:=k
def J3{ab:Prop}(k:ab:=by rintro u (hx|⟨i,e,H,U⟩);exact .inl ⟨.inl hx,fun I=>O.cU u hx (u3 u I)⟩;rcases rP i e H with⟨Q,H⟩|⟨k,o,H⟩;exact .inl (Af i e u Q H U);exact .inr ⟨k,e,H,U⟩):ab:=k
def ab7{ab:Prop}(k:ab:=by rw[mem_ready]at Q;have⟨E,aa,I,_⟩:=Q;have ai:=(iF.1 I).1;have:=dl i ai;simp[cO,ui,show i<listed.size by omega]at this E;simp_all):ab:=k
def ab8{ab:Prop}(k:ab:=by
 rcases fC with⟨e',rfl⟩|rfl;all_goals
  simp[Builtin.append_,en ht,en hu,sizeOf,typeInfo,zeroValue,Q,hz,hlen,hn,lV,lU,Question.forced,kl,s3,newRow,grownCap]
  grind):ab:=k
def Ry{ab:Prop}(k:ab:=by refine a6.of auV _ _ Y ⟨rfl,rfl⟩ (B ?_);exact lF):ab:=k
def ab9{ab:Prop}(k:ab:=by have:=r8 vs.toList (i*sz+f) (A y).cells.toList sO k;simp only[BI,eF]at this;rw[lG,sw];rw[<-fc]at this;exact this):ab:=k
def acb{ab:Prop}(k:ab:=by simp only[execOp,aF,bJ,a7,cb,da]):ab:=k
def Bu{ab:Prop}(k:ab:=by
 have Q:i<J.length:=by rw[hlen];exact(ao.1 hs).1
 exact WU w _ _ g _ qj hE i _ s v (aD Q) hs (hF.2 i _ v (aD Q) hv)):ab:=k
def ace{ab:Prop}(k:ab:=by rcases bc i e Q with⟨_,rfl⟩|⟨_,F⟩;simp[ba.owns]at U;rcases bc j e' hj with⟨_,rfl⟩|⟨_,h3⟩;simp[ba.owns]at bP;exact O.inj i j e e' u F h3 U bP):ab:=k
def RC{ab:Prop}(k:ab:=by simp only[Instr.typeAssert,bJ,bB hu,cb,EM Q];cases rJ:Instr.missingMethod ms i.methods with|none=>simp_all|some m=>simp[hz w]):ab:=k
def Bv{ab:Prop}(k:ab:=by rw[aF,jU];simp[Instr.indexAt,asIntOf,bB hu,hn w,h0,E,lf,jg]):ab:=k
def ach{ab:Prop}(k:ab:=by cases s<;>first|exact this|exact this.elim):ab:=k
def J6{ab:Prop}(k:ab:=by refine(hc.ok w X g vs O D).mono fun v w'⟨Jx,ad,V,⟨e1,e2⟩,bb,aE,hS⟩=>?_;subst e1;subst e2;exact⟨V,bb,aE,hS,by rw[aE.len,O.len];exact pB _⟩):ab:=k
def acj{ab:Prop}(k:ab:=by refine⟨by exact(a_ _ G G).trans sM,B ?_⟩;exact trivial):ab:=k
def acm{ab:Prop}(k:ab:=by simp only[Instr.typeAssert,bJ,bB hu,cb,EM Q];cases rJ:Instr.missingMethod ms i.methods with|none=>rfl|some _=>simp_all):ab:=k
def J7{ab:Prop}(k:ab:=by
 have hc:P.cellsOf CC.type=i.size:=by simp[Program.cellsOf,Q]
 rw[hc]at cW;simp[Instr.fieldAt,bB hu,xy,ha,Instr.sureAddr,fieldPlace,run_sizeOf Q,cW]):ab:=k
def acn{ab:Prop}(k:ab:=by cases l' with|nil=>exact⟨h,rfl,sM⟩|cons x t=>cases h):ab:=k
def RE{ab:Prop}(k:ab:=by rcases rP i e H with⟨_,H⟩|⟨k,o,H⟩;exact O.cU u hx ⟨i,e,H,U⟩;exact ct.cU u ⟨.inl hx,fun I=>O.cU u hx (u3 u I)⟩ ⟨k,e,H,U⟩):ab:=k
def t7{ab:Prop}(k:ab:=by refine B ?_;exact trivial):ab:=k
def acr{ab:Prop}(k:ab:=by
 have e:Act.put ⟨tmps,[]⟩ d v=⟨(Act.put ⟨tmps,[]⟩ d v).tmps,[]⟩:=by cases d<;>rfl
 rw[e];exact auJ (fun e a m5=>jm.from hS.any) l this):ab:=k
def act{ab:Prop}(k:ab:=by
 conv=>whnf
 refine⟨Y,?_⟩;conv=>whnf
 refine⟨Y,?_⟩;conv=>whnf
 refine⟨Y,?_⟩;conv=>whnf
 refine⟨Y,?_⟩;conv=>whnf
 simp_all):ab:=k
def acu{ab:Prop}(k:ab:=by refine B ?_;refine⟨by exact(a_ _ G G).trans sM,B ?_⟩;refine⟨by exact(a_ _ G G).trans sM,B ?_⟩;exact⟨by exact iH.symm,wt⟩):ab:=k
def acv{ab:Prop}(k:ab:=by refine a6.of X7 _ _ Y ⟨rfl,rfl⟩ (B ?_);exact lF):ab:=k
def acz{ab:Prop}(k:ab:=by rcases bc i e Q with Q|⟨_,rfl⟩;rcases bc j e' hj with hj|⟨_,rfl⟩;exact O.inj i j e e' u Q hj U bP;cases bP;cases U):ab:=k
def acE{ab:Prop}(k:ab:=by rcases bc j e H with⟨_,rfl⟩|⟨_,H⟩|⟨_,rfl⟩;cases o;exact O.cU k hx ⟨j,e,H,o⟩;exact O.cU k hx ⟨b,_,cS,o⟩):ab:=k
def acF{ab:Prop}(k:ab:=by
 have ai:i<vx.size:=by rw[<-rc];exact(ao.1 hs).1
 exact⟨vx[i],by grind,jN i s _ hs (c4 ai)⟩):ab:=k
def acG{ab:Prop}(k:ab:=by
 have ai:i<vy.size:=by rw[<-d3];exact(ao.1 hs).1
 exact⟨vy[i],by grind,g7 i s _ hs (c4 ai)⟩):ab:=k
def acJ{ab:Prop}(k:ab:=by cases l with|nil=>refine B ?_;exact Kl|cons p l=>refine B ?_;refine⟨sM,B ?_⟩;refine⟨_,rfl,B ?_⟩;exact adP):ab:=k
def acK{ab:Prop}(k:ab:=by exact⟨⟨D0,0,_,_,Y,rfl,rfl,.pair (jL Y).2,by(conv=>whnf);(repeat(first|exact trivial|rfl|(refine⟨rfl,?_⟩;(conv=>whnf))))⟩⟩):ab:=k
def acL{ab:Prop}(k:ab:=by rw[gr]at hs hv;rw[<-fP.1]at hv;split at hs;rename_i ai;rw[au ai]at hv;exact fP.2 i s v hs hv;grind):ab:=k
def acN{ab:Prop}(k:ab:=by (refine⟨⟨i.1+1,G,U.step ‹_› (by simp[*])⟩,by show l.length-(i.1+1)<l.length-i.1;omega,.of jx Y ?_⟩);refine B ?_;exact acx):ab:=k
def acQ{ab:Prop}(k:ab:=by intro v w' V cB D;rw[qt G,hp.aeJ hL I io];cases aa.dst with|none=>exact⟨cB,hd⟩|some d=>exact⟨cB.set D,hd⟩):ab:=k
def acR{ab:Prop}(k:ab:=by rw[<-U];exact List.set_getElem_self ai):ab:=k
def Fd{ab:Prop}(k:ab:=by refine⟨eW (qx Y) nc,fun i Q=>?_,?_⟩;have:i=0:=G;subst this;exact⟨_,_,rfl⟩;refine B ?_;simp_all):ab:=k
def acS{ab:Prop}(k:ab:=by rcases rP i e H with⟨_,H⟩|⟨k,o,H⟩;exact fj (O.lt i e u H U) hS.size;exact ct.lt k e u H U):ab:=k
def J9{ab:Prop}(k:ab:=by obtain⟨rfl,rfl⟩:=h;refine B ?_;exact qI):ab:=k
def RI{ab:Prop}(k:ab:=by refine .same (B ?_);rw[Ah U ‹_› (by simp[*])];exact RS):ab:=k
def acV{ab:Prop}(k:ab:=by
 cases e<;>simp only[aB]at M⊢;case row=>obtain⟨E,F,h3,h4,vs,h5,h6,h7⟩:=M;exact Kk
 case rownil=>exact M):ab:=k
def acW{ab:Prop}(k:ab:=by rcases bc i e H with⟨_,rfl⟩|⟨_,H⟩|⟨_,rfl⟩;cases o;exact O.lt i e k H o;exact O.lt b _ k cS o):ab:=k
def acY{ab:Prop}(k:ab:=by rcases bc j e H with⟨_,rfl⟩|⟨_,H⟩|⟨_,rfl⟩;cases o;exact O.lt j e k H o;exact O.lt b _ k cS o):ab:=k
def ac2{ab:Prop}(k:ab:=by rw[<-hm];refine ew.2 ⟨e,oE.2 ⟨H,?_⟩,rfl⟩;have⟨a,b⟩:=e;simp only at hn⊢;rw[hn];rfl):ab:=k
def ac6{ab:Prop}(k:ab:=by rw[eU (by rw[<-O.len];grind)]at M;exact(O.ok i b e M H).step (hS _) (aC _) fun _ _=>rfl):ab:=k
def ac7{ab:Prop}(k:ab:=by rcases bc i e H with⟨_,rfl⟩|⟨_,H⟩|⟨_,rfl⟩;cases o;exact⟨i,e,H,o⟩;exact⟨b,_,cS,o⟩):ab:=k
def ac8{ab:Prop}(k:ab:=by rcases bc j e H with⟨_,rfl⟩|⟨_,H⟩|⟨_,rfl⟩;cases o;exact⟨j,e,H,o⟩;exact⟨b,_,cS,o⟩):ab:=k
def Ka{ab:Prop}(k:ab:=by
 have hj:j<cs.length:=by rw[hl];exact(iF.1 hv).1
 exact(hc j _ v (aD hj) hv).2):ab:=k
def RK{ab:Prop}(k:ab:=by rcases rP i e H with⟨_,H⟩|⟨k,o,H⟩;exact⟨i,e,H,U⟩;exact u3 u (hS.gG u ⟨k,e,H,U⟩ qa)):ab:=k
def adf{ab:Prop}(k:ab:=by rw[sU,n5];rfl):ab:=k
def Kc{ab:Prop}(k:ab:=by rcases N2 with h|⟨y,hy,D⟩;exact .inl h;exact yK):ab:=k
def adg{ab:Prop}(k:ab:=by repeat(first|exact trivial|(refine⟨rfl,?_⟩;(conv=>whnf)))):ab:=k
def adh{ab:Prop}(k:ab:=by
 conv=>whnf
 refine⟨Y,?_⟩;conv=>whnf):ab:=k
def RN{ab:Prop}(k:ab:=by rw[<-e1];exact D.mono _ (fun _ _ _=>rfl) (aC _) (fun u _ hn h=>hn (hE u h)) (fun j e H hf=>by grind)):ab:=k
def adk{ab:Prop}(k:ab:=by exact(O.ok i b' e' aP aK).step hS (aC _) fun k o=>hw k fun xC=>am (O.inj n i e e' u H aK U (xC▸o))):ab:=k
def adm{ab:Prop}(k:ab:=by have⟨i,e,_,H,U⟩:=br u I;exact .inr ⟨i,e,H,U⟩):ab:=k
def adn{ab:Prop}(k:ab:=by rcases D with⟨g',h3,h4⟩|h3;simp_all;simp_all):ab:=k
def ado{ab:Prop}(k:ab:=by exact dD (m:=Builtin.append_ #[t,ag] ty #[A x0,A y0]) (by rw[sU,vk l5];rfl) D res):ab:=k
def adp{ab:Prop}(k:ab:=by obtain⟨e,h⟩:=h;subst e;exact⟨h,fun _ _ _ _ _ _ _ _ D=>by cases D;exact .hJ (cx _)⟩):ab:=k
def adq{ab:Prop}(k:ab:=by intro k;induction k with|zero=>rfl|succ k ih=>simp only[FL];rw[ay,ih];exact adC):ab:=k
def adr{ab:Prop}(k:ab:=by intro k;induction k with|zero=>rfl|succ k ih=>simp only[HL];rw[ay,ih];exact adC):ab:=k
def adt{ab:Prop}(k:ab:=by refine⟨none,h,sM,fun w L g v ms _ hl _=>?_⟩;cases ms with|nil=>rfl|cons m ms=>simp at hl):ab:=k
def RO{ab:Prop}(k:ab:=by refine B ?_;refine⟨by exact(a_ _ G G).trans sM,B ?_⟩;refine⟨by simp[*],?_⟩;exact wt):ab:=k
def axP{ab:Prop}(k:ab:=by rcases hd with⟨_,_,hf⟩|⟨_,a,rfl⟩;exact hf;intro w L g V v D;cases D;constructor):ab:=k
def axQ{ab:Prop}(k:ab:=by rw[bu,au rfl]at M;split at M;simp at M;subst M;trivial;simp at M):ab:=k
def aw9{ab:Prop}(k:ab:=by refine .same (B ?_);rw[Ai U G];exact RS):ab:=k
inductive SV where
 |bot|any|undef
 |int (k:IntKind) (n:Int)
 |tt|ff|bool (b:Bool)|qb (p:Prop)
 |str (s:List UInt8)
 |agg (cs:List SV)
 |tup (vs:List SV)
 |nilp
 |ptr (b off:Nat)
 |ep (b i f:Nat)
 |nils
 |sl (b:Nat)
 |rs (sz:Nat) (es:List (List SV))
 |rp (sz:Nat) (es:List (List SV)) (i f:Nat)
 |fn (f:FuncId) (lj:List SV)
 |qu (n:Nat)
 |pz (k:IntKind)
 |mp (b:Nat)
 |nilm
 |ifc (T:TypeId) (s:SV)
 |nili
 |ss (b lo n:Nat)
 |it (b:Nat)
 |z0
 |eh (f:FuncId) (first:List SV)
 |tl (b m:Nat)
 |tp (b m i f:Nat)
 |ra (u aa:Nat)
 |rl (u n c:Nat)
 deriving Inhabited
inductive bK where
 |fresh|dead
 |fix (T:TypeId) (cs:List SV)
 |row (T:TypeId) (sz:Nat) (es:List (List SV))
 |prow (T:TypeId) (sz:Nat) (es:List (List SV))
 |mapB (es:List (SV×SV×Nat)) (clock:Nat)
 |pmap (es:List (SV×SV×Nat)) (clock:Nat)
 |mit (m:Option Nat) (since:Nat) (seen:List Nat) (axb:Nat)
 |sit (s:List UInt8) (pos:Nat)
 |glob (u:Nat) (T:TypeId) (cs:List SV)
 |tail (T:TypeId) (sz:Nat) (es:List (List SV))
 |imap (es:List (Int×SV×Nat)) (clock:Nat)
 |asn (ab:World->(Nat->Prop)->Prop)
 deriving Inhabited
abbrev Fr:=List SV
abbrev Hp:=List bK
inductive ba where
 |fresh|dead
 |fix (u:Nat)
 |row (u sz n cap:Nat)
 |rownil
 |obj (u:Nat)
 |own (ci:Nat->Prop)
 deriving Inhabited
def ba.owns:ba->Nat->Prop|.fix u,k=>u=k|.row u _ _ _,k=>u=k|.obj u,k=>u=k|.own ci,k=>ci k|_,_=>False
@[simp]def ba.loose:ba->Prop
 |.fresh=>True
 |.own _=>True
 |_=>False
def ba.zm:ba->Nat->Prop|.fix u,k=>u=k|.row u _ _ _,k=>u=k|.obj u,k=>u=k|_,_=>False
def ba.zm.eq{e:ba}{u k}(h:e.zm u)(o:e.owns k):k=u:=by cases e<;>first|exact h.elim|(simp only[ba.zm,ba.owns]at h o;omega)
abbrev Sg:=List ba
def bM(g:Sg)(u:Nat):Prop:=∃(i:Nat)(e:ba),g[i]?=some e/\e.owns u
def Ex(X:Nat->Prop)(g:Sg)(u:Nat):Prop:=X u\/bM g u
inductive af(w:World)(L:Nat->Prop):Sg->SV->Value->Prop where
 |any {g:Sg} {v:Value}:af w L g .any v
 |undef {g:Sg}:af w L g .undef Go.undef
 |int {g:Sg} {k:IntKind} {n:Int}:af w L g (.int k n) (.int k n)
 |tt {g:Sg}:af w L g .tt (.bool true)
 |ff {g:Sg}:af w L g .ff (.bool false)
 |bool {g:Sg} {b:Bool}:af w L g (.bool b) (.bool b)
 |qb {g:Sg} {p:Prop} {b:Bool} (h:b=true->p):af w L g (.qb p) (.bool b)
 |str {g:Sg} {s:List UInt8}:af w L g (.str s) (.string ⟨s.toArray⟩)
 |agg {g:Sg} {cs:List SV} {vs:Array Value} (hl:cs.length=vs.size) (E:∀(i:Nat)(v:Value),vs[i]?=some v->v.oneCell'=true)
  (h:∀(i:Nat)(s:SV)(v:Value),cs[i]?=some s->vs[i]?=some v->af w L g s v):af w L g (.agg cs) (.agg vs)
 |tup {g:Sg} {cs:List SV} {vs:Array Value} (hl:cs.length=vs.size)
  (h:∀(i:Nat)(s:SV)(v:Value),cs[i]?=some s->vs[i]?=some v->af w L g s v):af w L g (.tup cs) (.tuple vs)
 |nilp {g:Sg}:af w L g .nilp (.pointer none)
 |nils {g:Sg}:af w L g .nils (.slice none 0 0)
 |ptr {g:Sg} {b u off:Nat} (h:g[b]?=some (.fix u)):af w L g (.ptr b off) (.pointer (some ⟨u,off,none⟩))
 |eD {g:Sg} {b off u:Nat} (h:g[b]?=some .dead):af w L g (.ptr b off) (.pointer (some ⟨u,off,none⟩))
 |ep {g:Sg} {b u sz n cap i f:Nat} (h:g[b]?=some (.row u sz n cap)):af w L g (.ep b i f) (.pointer (some ⟨u,i*sz+f,none⟩))
 |hb {g:Sg} {b i f u aa:Nat} (h:g[b]?=some .dead):af w L g (.ep b i f) (.pointer (some ⟨u,aa,none⟩))
 |sl {g:Sg} {b u sz n cap:Nat} (h:g[b]?=some (.row u sz n cap)):af w L g (.sl b) (.slice (some ⟨u,0,none⟩) n cap)
 |dE {g:Sg} {b:Nat} (h:g[b]?=some .rownil):af w L g (.sl b) (.slice none 0 0)
 |c9 {g:Sg} {b n c:Nat} {a:Option Addr} (h:g[b]?=some .dead):af w L g (.sl b) (.slice a n c)
 |hJ {g:Sg} {sz:Nat} {a:Option Addr} {c:Nat} (hc:c<=maxLen):af w L g (.rs sz []) (.slice a 0 c)
 |rs {g:Sg} {sz:Nat} {es:List (List SV)} {ec:Addr} {c:Nat} {val:Nat->Nat->Value} (hc:es.length<=c) (hm:c<=maxLen) (hE:¬L ec.block) (ai:ec.block<w.heap.size)
  (hlen:∀(i:Nat)(e:List SV),es[i]?=some e->e.length=sz)
  (d2:∀(i:Nat)(e:List SV)(j:Nat)(s:SV),es[i]?=some e->e[j]?=some s->w.cell? (ec.add (i*sz+j))=some (val i j))
  (cX:∀(i:Nat)(e:List SV)(j:Nat)(s:SV),es[i]?=some e->e[j]?=some s->(val i j).oneCell'=true)
  (bb:∀(i:Nat)(e:List SV)(j:Nat)(s:SV),es[i]?=some e->e[j]?=some s->af w L [] s (val i j)):af w L g (.rs sz es) (.slice (some ec) es.length c)
 |rp {g:Sg} {sz:Nat} {es:List (List SV)} {ec:Addr} {i f:Nat} {val:Nat->Nat->Value} (hE:¬L ec.block) (ai:ec.block<w.heap.size)
  (hlen:∀(i:Nat)(e:List SV),es[i]?=some e->e.length=sz)
  (d2:∀(i:Nat)(e:List SV)(j:Nat)(s:SV),es[i]?=some e->e[j]?=some s->w.cell? (ec.add (i*sz+j))=some (val i j))
  (cX:∀(i:Nat)(e:List SV)(j:Nat)(s:SV),es[i]?=some e->e[j]?=some s->(val i j).oneCell'=true)
  (bb:∀(i:Nat)(e:List SV)(j:Nat)(s:SV),es[i]?=some e->e[j]?=some s->af w L [] s (val i j)):af w L g (.rp sz es i f) (.pointer (some (ec.add (i*sz+f))))
 |fn {g:Sg} {f:FuncId} {cs:List SV} {vs:Array Value} (hl:cs.length=vs.size)
  (h:∀(i:Nat)(s:SV)(v:Value),cs[i]?=some s->vs[i]?=some v->af w L g s v):af w L g (.fn f cs) (.func (.func f) #[] vs)
 |qu {g:Sg} {a:Option Addr} {n c:Nat}:af w L g (.qu n) (.slice a n c)
 |pz {g:Sg} {k:IntKind} {x:Int} (h:0<x):af w L g (.pz k) (.int k x)
 |mp {g:Sg} {b u:Nat} (h:g[b]?=some (.obj u)):af w L g (.mp b) (.map (some u))
 |gN {g:Sg} {b:Nat} {r:Option Nat} (h:g[b]?=some .dead):af w L g (.mp b) (.map r)
 |nilm {g:Sg}:af w L g .nilm (.map none)
 |ifc {g:Sg} {T:TypeId} {s:SV} {v:Value} (h:af w L g s v):af w L g (.ifc T s) (.iface T v)
 |nili {g:Sg}:af w L g .nili .nilIface
 |ss {g:Sg} {b u sz n cap lo m aa:Nat} (h:g[b]?=some (.row u sz n cap)) (hl:lo+m<=n) (I:lo<cap->aa=lo*sz):af w L g (.ss b lo m) (.slice (some ⟨u,aa,none⟩) m (cap-lo))
 |eS {g:Sg} {b:Nat} (h:g[b]?=some .rownil):af w L g (.ss b 0 0) (.slice none 0 0)
 |ej {g:Sg} {b lo m n c:Nat} {a:Option Addr} (h:g[b]?=some .dead):af w L g (.ss b lo m) (.slice a n c)
 |it {g:Sg} {b u:Nat} (h:g[b]?=some (.obj u)):af w L g (.it b) (.pointer (some ⟨u,0,none⟩))
 |ho {g:Sg} {b:Nat} {a:Option Addr} (h:g[b]?=some .dead):af w L g (.it b) (.pointer a)
 |z0 {g:Sg} {a:Option Addr}:af w L g .z0 (.slice a 0 0)
 |eh {g:Sg} {f:FuncId} {cs:List SV} {vs:Array Value} (hl:cs.length=vs.size)
  (h:∀(i:Nat)(s:SV)(v:Value),cs[i]?=some s->vs[i]?=some v->af w L g s v):af w L g (.eh f cs) (.func (.func f) vs #[])
 |tl {g:Sg} {b u sz n cap m aa:Nat} (h:g[b]?=some (.row u sz n cap)) (hm:m<=n) (I:n-m<cap->aa=(n-m)*sz):af w L g (.tl b m) (.slice (some ⟨u,aa,none⟩) m (cap-(n-m)))
 |eY {g:Sg} {b m n c:Nat} {a:Option Addr} (h:g[b]?=some .dead):af w L g (.tl b m) (.slice a n c)
 |fM {g:Sg} {b:Nat} (h:g[b]?=some .rownil):af w L g (.tl b 0) (.slice none 0 0)
 |tp {g:Sg} {b u sz n cap m i f:Nat} (h:g[b]?=some (.row u sz n cap)):af w L g (.tp b m i f) (.pointer (some ⟨u,(n-m+i)*sz+f,none⟩))
 |np {g:Sg} {b m i f:Nat} {a:Option Addr} (h:g[b]?=some .dead):af w L g (.tp b m i f) (.pointer a)
 |ra {g:Sg} {u aa:Nat}:af w L g (.ra u aa) (.pointer (some ⟨u,aa,none⟩))
 |rl {g:Sg} {u n c:Nat}:af w L g (.rl u n c) (.slice (some ⟨u,0,none⟩) n c)
def ze(a:Addr)(n):(a.add n).block=a.block:=by unfold Addr.add;split<;>rfl
def add_add(a:Addr)(i j):(a.add i).add j=a.add (i+j):=by unfold Addr.add;grind
def af.mono{w w' L E' g s v}(h:af w L g s v):∀V:Sg,(∀u,u<w.heap.size->¬L u->w'.heap[u]?=w.heap[u]?)->w.heap.size<=w'.heap.size->(∀u,u<w.heap.size->¬L u->¬E' u)->(∀(i:Nat)(e:ba),g[i]?=some e->¬e.loose->V[i]?=some e\/V[i]?=some .dead)->af w' E' V s v:=by induction h with|any=>intros;exact .any|undef=>intros;exact .undef|int=>intros;exact .int|tt=>intros;exact .tt|ff=>intros;exact .ff|bool=>intros;exact .bool|qb h=>intros;exact .qb h|str=>intros;exact .str|agg hl E h ih=>intro V hw hs hE ak;exact .agg hl E fun i s v bW hv=>ih i s v bW hv V hw hs hE ak|tup hl h ih=>intro V hw hs hE ak;exact .tup hl fun i s v bW hv=>ih i s v bW hv V hw hs hE ak|nilp=>intros;exact .nilp|nils=>intros;exact .nils|ptr h=>intro V _ _ _ ak;exact(ak _ _ h (by simp)).elim (fun h=>.ptr h) (fun h=>.eD h)|eD h=>intro V _ _ _ ak;exact(ak _ _ h (by simp)).elim (fun h=>.eD h) (fun h=>.eD h)|ep h=>intro V _ _ _ ak;exact(ak _ _ h (by simp)).elim (fun h=>.ep h) (fun h=>.hb h)|hb h=>intro V _ _ _ ak;exact(ak _ _ h (by simp)).elim (fun h=>.hb h) (fun h=>.hb h)|sl h=>intro V _ _ _ ak;exact(ak _ _ h (by simp)).elim (fun h=>.sl h) (fun h=>.c9 h)|dE h=>intro V _ _ _ ak;exact(ak _ _ h (by simp)).elim (fun h=>.dE h) (fun h=>.c9 h)|c9 h=>intro V _ _ _ ak;exact(ak _ _ h (by simp)).elim (fun h=>.c9 h) (fun h=>.c9 h)|hJ hc=>intros;exact .hJ hc|rs hc hm Mw ai hlen d2 cX bb ih=>intro V hw hs hE ak;refine .rs hc hm (hE _ ai Mw) (fj ai hs) hlen (fun i e j s H bW=>?_) cX (fun i e j s H bW=>ih i e j s H bW [] hw hs hE (by simp));rw[<-d2 i e j s H bW];refine Sy ?_;rw[ze];simp_all|rp Mw ai hlen d2 cX bb ih=>intro V hw hs hE ak;refine .rp (hE _ ai Mw) (fj ai hs) hlen (fun i e j s H bW=>?_) cX (fun i e j s H bW=>ih i e j s H bW [] hw hs hE (by simp));rw[<-d2 i e j s H bW];refine Sy ?_;rw[ze];simp_all|fn hl h ih=>intro V hw hs hE ak;exact .fn hl fun i s v bW hv=>ih i s v bW hv V hw hs hE ak|eh hl h ih=>intro V hw hs hE ak;exact .eh hl fun i s v bW hv=>ih i s v bW hv V hw hs hE ak|qu=>intros;exact .qu|pz h=>intros;exact .pz h|tl h hm I=>intro V _ _ _ ak;exact(ak _ _ h (by simp)).elim (fun h=>.tl h hm I) (fun h=>.eY h)|eY h=>intro V _ _ _ ak;exact(ak _ _ h (by simp)).elim (fun h=>.eY h) (fun h=>.eY h)|fM h=>intro V _ _ _ ak;exact(ak _ _ h (by simp)).elim (fun h=>.fM h) (fun h=>.eY h)|tp h=>intro V _ _ _ ak;exact(ak _ _ h (by simp)).elim (fun h=>.tp h) (fun h=>.np h)|np h=>intro V _ _ _ ak;exact(ak _ _ h (by simp)).elim (fun h=>.np h) (fun h=>.np h)|ra=>intros;exact .ra|rl=>intros;exact .rl|mp h=>intro V _ _ _ ak;exact(ak _ _ h (by simp)).elim (fun h=>.mp h) (fun h=>.gN h)|gN h=>intro V _ _ _ ak;exact(ak _ _ h (by simp)).elim (fun h=>.gN h) (fun h=>.gN h)|nilm=>intros;exact .nilm|ifc h ih=>intro V hw hs hE ak;exact .ifc (ih V hw hs hE ak)|nili=>intros;exact .nili|z0=>intros;exact .z0|ss h hl I=>intro V _ _ _ ak;exact(ak _ _ h (by simp)).elim (fun h=>.ss h hl I) (fun h=>.ej h)|eS h=>intro V _ _ _ ak;exact(ak _ _ h (by simp)).elim (fun h=>.eS h) (fun h=>.ej h)|ej h=>intro V _ _ _ ak;exact(ak _ _ h (by simp)).elim (fun h=>.ej h) (fun h=>.ej h)|it h=>intro V _ _ _ ak;exact(ak _ _ h (by simp)).elim (fun h=>.it h) (fun h=>.ho h)|ho h=>intro V _ _ _ ak;exact(ak _ _ h (by simp)).elim (fun h=>.ho h) (fun h=>.ho h)
def gj(w:World)(u:Nat)(vs:Array Value)(T:TypeId):Prop:=∃fr:Nat×Nat,w.heap[u]?=some (.cells vs T fr)/\(∀k,k<vs.size->¬(fr.1<=k/\k<fr.2))/\fr.1<=fr.2
def gj.of{w u vs}{T:TypeId}(h:w.heap[u]?=some (.cells vs T (0,0))):gj w u vs T:=⟨_,h,fun k _ h=>absurd h.2 (Nat.not_lt_zero k),aC _⟩
def gj.same{w w' u vs}{T:TypeId}(h:gj w u vs T)(U:w'.heap[u]?=w.heap[u]?):gj w' u vs T:=by have⟨fr,E,F⟩:=h;exact⟨fr,U.trans E,F⟩
def gW(es:List (Int×SV×Nat))(ck:Nat):Prop:=(es.map (·.1)).Nodup/\(es.map (·.2.2)).Nodup/\∀e∈es,e.2.2<ck
def aB(w:World)(L:Nat->Prop)(g:Sg):bK->ba->Prop
 |.fresh,.fresh=>True
 |.dead,.dead=>True
 |.fix T cs,.fix u=>∃vs:Array Value,w.heap[u]?=some (.cells vs T (0,0))/\cs.length=vs.size/\
  ∀(i:Nat)(s:SV)(v:Value),cs[i]?=some s->vs[i]?=some v->af w L g s v/\v.oneCell'=true
 |.row T sz es,.row u jB n cap=>jB=sz/\n=es.length/\n<=cap/\cap<=maxLen/\∃vs:Array Value,gj w u vs T/\vs.size=cap*sz/\
  ∀i e,es[i]?=some e->e.length=sz/\∀j s,e[j]?=some s->∃v,vs[i*sz+j]?=some v/\af w L [] s v/\v.oneCell'=true
 |.row _ _ es,.rownil=>es=[]
 |.prow T sz es,.row u jB n cap=>jB=sz/\n=es.length/\n<=cap/\cap<=maxLen/\∃vs:Array Value,gj w u vs T/\vs.size=cap*sz/\
  ∀i e,es[i]?=some e->e.length=sz/\∀j s,e[j]?=some s->∃v,vs[i*sz+j]?=some v/\af w L g s v/\v.oneCell'=true
 |.prow _ _ es,.rownil=>es=[]
 |.mapB es ck,.obj u=>∃ms:Array MapEntry,w.heap[u]?=some (.map ms ck)/\es.length=ms.size/\
  ∀(i:Nat)(e:SV×SV×Nat)(m:MapEntry),es[i]?=some e->ms[i]?=some m->af w L [] e.1 m.key/\af w L [] e.2.1 m.val/\m.born=e.2.2
 |.pmap es ck,.obj u=>∃ms:Array MapEntry,w.heap[u]?=some (.map ms ck)/\es.length=ms.size/\
  ∀(i:Nat)(e:SV×SV×Nat)(m:MapEntry),es[i]?=some e->ms[i]?=some m->af w L g e.1 m.key/\af w L g e.2.1 m.val/\m.born=e.2.2
 |.mit mb since seen st,.obj u=>∃r:Option Nat,w.heap[u]?=some (.mapIter r since seen.toArray st)/\(match mb with|none=>r=none|some b=>(∃g',g[b]?=some (.obj g')/\r=some g')\/g[b]?=some .dead)
 |.sit s pos,.obj u=>w.heap[u]?=some (.stringIter ⟨s.toArray⟩ pos)
 |.glob g0 T cs,.fix u=>g0=u/\∃vs:Array Value,w.heap[u]?=some (.cells vs T (0,0))/\cs.length=vs.size/\
  ∀(i:Nat)(s:SV)(v:Value),cs[i]?=some s->vs[i]?=some v->af w L [] s v/\v.oneCell'=true
 |.tail T sz es,.row u jB n cap=>jB=sz/\es.length<=n/\n<=cap/\cap<=maxLen/\∃vs:Array Value,gj w u vs T/\vs.size=cap*sz/\
  (∀i e,es[i]?=some e->e.length=sz/\∀j s,e[j]?=some s->∃v,vs[(n-es.length+i)*sz+j]?=some v/\af w L g s v/\v.oneCell'=true)/\
  ∀q,q<(n-es.length)*sz->∃v,vs[q]?=some v/\v.oneCell'=true
 |.imap es ck,.obj u=>gW es ck/\∃ms:Array MapEntry,w.heap[u]?=some (.map ms ck)/\es.length=ms.size/\
  ∀(i:Nat)(e:Int×SV×Nat)(m:MapEntry),es[i]?=some e->ms[i]?=some m->m.key=.int .i64 e.1/\af w L [] e.2.1 m.val/\m.born=e.2.2
 |.asn ab,.own ci=>ab w ci/\∀w':World,(∀u,ci u->w'.heap[u]?=w.heap[u]?)->w.heap.size<=w'.heap.size->ab w' ci
 |_,_=>False
structure Inv(w:World)(X:Nat->Prop)(g:Sg)(h:Hp):Prop where
 len:g.length=h.length
 ok:∀(i:Nat)(b:bK)(e:ba),h[i]?=some b->g[i]?=some e->aB w (Ex X g) g b e
 lt:∀(i:Nat)(e:ba)(u:Nat),g[i]?=some e->e.owns u->u<w.heap.size
 inj:∀(i j:Nat)(e e':ba)(u:Nat),g[i]?=some e->g[j]?=some e'->e.owns u->e'.owns u->i=j
 cU:∀u,X u->¬bM g u
 df:∀u,X u->u<w.heap.size
structure Step(m:Nat)(w:World)(g:Sg)(w':World)(V:Sg):Prop where
 os:w'.os=w.os
 tape:w'.tape=w.tape
 output:w'.output=w.output
 size:w.heap.size<=w'.heap.size
 frame:∀u,u<w.heap.size->¬bM g u->w'.heap[u]?=w.heap[u]?
 gG:∀u,bM V u->u<w.heap.size->bM g u
 g_:∀(i:Nat)(e:ba),i<m->g[i]?=some e->¬e.loose->V[i]?=some e\/V[i]?=some .dead
def Step.refl(m)(w)(g):Step m w g w g:=⟨rfl,rfl,rfl,aC _,fun _ _ _=>rfl,fun _ h _=>h,fun _ _ _ h _=>.inl h⟩
def Step.trans{m w w' m5 g V j_}(h:Step m w g w' V)(k:Step m w' V m5 j_):Step m w g m5 j_ where
 os:=k.os.trans h.os
 tape:=k.tape.trans h.tape
 output:=k.output.trans h.output
 size:=dF h.size k.size
 frame u U I:=(k.frame u (fj U h.size) fun h'=>I (h.gG u h' U)).trans (h.frame u U I)
 gG u I U:=h.gG u (k.gG u I (fj U h.size)) U
 g_ i e Q H hf:=by
  rcases h.g_ i e Q H hf with E|E
  ·exact k.g_ i e Q E hf
  ·rcases k.g_ i _ Q E sM with F|F<;>exact .inr F
def Step.le{m m' w w' g V}(h:Step m w g w' V)(hm:m'<=m):Step m' w g w' V:=
 ⟨h.os,h.tape,h.output,h.size,h.frame,h.gG,fun i e Q=>h.g_ i e (fj Q hm)⟩
def Step.ex{m w w' X g V}(h:Step m w g w' V)(u)(U:u<w.heap.size)(hE:¬Ex X g u):¬Ex X V u:=by rintro(hx|I);exact hE (.inl hx);exact hE (.inr (h.gG u I U))
def af.step{m w w' X g V s v}(h:af w (Ex X g) g s v)(k:Step m w g w' V)(hm:g.length<=m):af w' (Ex X V) V s v:=
 h.mono V (fun u U hE=>k.frame u U fun I=>hE (.inr I)) k.size (fun u U hE=>k.ex u U hE)
  fun i e H hf=>k.g_ i e (by grind) H hf
def af.hP{m w w' X g V s v}(h:af w (Ex X g) [] s v)(k:Step m w g w' V):af w' (Ex X V) [] s v:=
 h.mono [] (fun u U hE=>k.frame u U fun I=>hE (.inr I)) k.size (fun u U hE=>k.ex u U hE) sM
def cC(w:World)(L:Nat->Prop)(g:Sg)(J:Fr)(a:Array Value):Prop:=
 J.length=a.size/\∀(i:Nat)(s:SV)(v:Value),J[i]?=some s->a[i]?=some v->af w L g s v
def cC.step{m w w' X g V J a}(h:cC w (Ex X g) g J a)(k:Step m w g w' V)(hm:g.length<=m):cC w' (Ex X V) V J a:=
 ⟨h.1,fun i s v hs hv=>(h.2 i s v hs hv).step k hm⟩
def aB.step{m w w' X g V b e}(h:aB w (Ex X g) g b e)(k:Step m w g w' V)(hm:g.length<=m) (U:∀u,e.owns u->w'.heap[u]?=w.heap[u]?):aB w' (Ex X V) V b e:=by
 cases b<;>cases e<;>simp only[aB]at h⊢;case fix.fix T cs u=>have⟨vs,E,F,h3⟩:=h;exact⟨vs,(U u rfl).trans E,F,fun i s v hs hv=>⟨(h3 i s v hs hv).1.step k hm,(h3 i s v hs hv).2⟩⟩
 case row.row T sz es u jB n cap=>have⟨E,F,h3,h4,vs,h5,h6,h7⟩:=h;refine⟨E,F,h3,h4,vs,h5.same (U u rfl),h6,fun i e H=>⟨(h7 i e H).1,fun j s hs=>?_⟩⟩;have⟨v,a,b,c⟩:=(h7 i e H).2 j s hs;exact⟨v,a,b.hP k,c⟩
 case prow.row T sz es u jB n cap=>have⟨E,F,h3,h4,vs,h5,h6,h7⟩:=h;refine⟨E,F,h3,h4,vs,h5.same (U u rfl),h6,fun i e H=>⟨(h7 i e H).1,fun j s hs=>?_⟩⟩;have⟨v,a,b,c⟩:=(h7 i e H).2 j s hs;exact⟨v,a,b.step k hm,c⟩
 case tail.row T sz es u jB n cap=>have⟨E,F,h3,h4,vs,h5,h6,h7,h8⟩:=h;refine⟨E,F,h3,h4,vs,h5.same (U u rfl),h6,fun i e H=>⟨(h7 i e H).1,fun j s hs=>?_⟩,h8⟩;have⟨v,a,b,c⟩:=(h7 i e H).2 j s hs;exact⟨v,a,b.step k hm,c⟩
 case mapB.obj es ck u=>have⟨ms,E,F,h3⟩:=h;exact⟨ms,(U u rfl).trans E,F,fun i e m H bq=>⟨(h3 i e m H bq).1.hP k,(h3 i e m H bq).2.1.hP k,(h3 i e m H bq).2.2⟩⟩
 case pmap.obj es ck u=>have⟨ms,E,F,h3⟩:=h;exact⟨ms,(U u rfl).trans E,F,fun i e m H bq=>⟨(h3 i e m H bq).1.step k hm,(h3 i e m H bq).2.1.step k hm,(h3 i e m H bq).2.2⟩⟩
 case mit.obj mb since seen st u=>
  have⟨r,E,F⟩:=h;refine⟨r,(U u rfl).trans E,?_⟩;cases mb with
  |none=>exact F
  |some b=>
   have ai:∀e,g[b]?=some e->b<m:=fun e H=>by grind
   rcases F with⟨g',F,h3⟩|F;exact(k.g_ b _ (ai _ F) F sM).elim (fun q=>.inl ⟨g',q,h3⟩) .inr;exact .inr ((k.g_ b _ (ai _ F) F sM).elim id id)
 case imap.obj es ck u=>have⟨iX,ms,E,F,h3⟩:=h;exact⟨iX,ms,(U u rfl).trans E,F,fun i e m H bq=>⟨(h3 i e m H bq).1,(h3 i e m H bq).2.1.hP k,(h3 i e m H bq).2.2⟩⟩
 case asn.own ab ci=>have⟨E,F⟩:=h;exact⟨F w' U k.size,fun w2 e2 s2=>F w2 (fun u hO=>(e2 u hO).trans (U u hO)) (dF k.size s2)⟩
 case sit.obj s pos u=>exact(U u rfl).trans h
 case glob.fix g0 T cs u=>have⟨h0,vs,E,F,h3⟩:=h;exact⟨h0,vs,(U u rfl).trans E,F,fun i s v hs hv=>⟨(h3 i s v hs hv).1.hP k,(h3 i s v hs hv).2⟩⟩
 all_goals exact h
inductive TI where
 |int (k:IntKind)|bool|str
 |struct (fs:List (Nat×TypeId×Nat))
 |array (n:Nat) (e:TypeId)
 |slice (e:TypeId)
 |ptr (e:TypeId)
 |map (k e:TypeId)
 |iface
 |other|none
 deriving Inhabited,DecidableEq
structure TE where
 ti:TI
 size:Nat
 bytes:Nat
 zero:List SV
 flat:Bool
 Rs:Bool
 deriving Inhabited
abbrev aG:=List (List (List TE))
def av{α:Type}(l:List α):Nat->(α->Prop)->Prop:=
 List.rec (fun _ _=>False) (fun x _ ih n k=>Nat.rec (k x) (fun m _=>ih m k) n) l
def gg{α:Type}(l:List α):Nat->α->(List α->Prop)->Prop:=
 List.rec (fun _ _ _=>False)
  (fun x xs ih n v k=>Nat.rec (k (v::xs)) (fun m _=>ih m v fun r=>k (x::r)) n) l
def mD{α:Type}(n:Nat):List α->(List α->Prop)->Prop:=
 Nat.rec (fun _ k=>k [])
  (fun _ ih l k=>List.rec False (fun x xs _=>ih xs fun r=>k (x::r)) l) n
def w4{α:Type}(n:Nat):List α->(List α->Prop)->Prop:=
 Nat.rec (fun l k=>k l)
  (fun _ ih l k=>List.rec False (fun _ xs _=>ih xs k) l) n
def fA{α:Type}(l:List α):List α->(List α->Prop)->Prop:=
 List.rec (fun ys k=>k ys) (fun x _ ih ys k=>ih ys fun r=>k (x::r)) l
def PS{α:Type}(l:List α):List α->(List α->Prop)->Prop:=
 List.rec (fun vs k=>List.rec (k []) (fun _ _ _=>False) vs)
  (fun x xs ih vs k=>List.rec (k (x::xs)) (fun v cP _=>ih cP fun r=>k (v::r)) vs) l
def tJ{α:Type}(l:List α):Nat->List α->(List α->Prop)->Prop:=
 List.rec (fun n vs k=>Nat.rec (PS [] vs k) (fun _ _=>False) n)
  (fun x xs ih n vs k=>Nat.rec (PS (x::xs) vs k) (fun m _=>ih m vs fun r=>k (x::r)) n) l
def vG{α:Type}(n:Nat)(x:α)(k:List α->Prop):Prop:=Nat.rec (fun k=>k []) (fun _ ih k=>ih fun r=>k (x::r)) n k
def vm(n:Nat)(k:Prop):Prop:=match n with|0=>False|_+1=>k
def bd(a b:Nat)(k:Prop):Prop:=match Nat.beq a b with|true=>k|false=>False
def og(a b:Nat)(k:Prop):Prop:=match Nat.ble a b with|true=>k|false=>False
def yA:List Nat:=[0,1,2,3,4,5,6,7,8,9,10,11,12,13,14,15,16,17,18,19,20,21,22,23,24,25,26,27,28,29,30,31,32,33,34,35,36,37,38,39,40,41,42,43,44,45,46,47,48,49,50,51,52,53,54,55,56,57,58,59,60,61,62,63,64,65,66,67,68,69,70,71,72,73,74,75,76,77,78,79,80,81,82,83,84,85,86,87,88,89,90,91,92,93,94,95]
def DL(h:Hp):List Nat->(Nat->Prop)->Prop:=
 List.rec (fun ns k=>List.rec False (fun n _ _=>k n) ns)
  (fun _ _ ih ns k=>List.rec False (fun _ ns' _=>ih ns' k) ns) h
def ig{β:Type}(l:List β):Nat->Option β:=
 List.rec (fun _=>none) (fun x _ ih n=>Nat.rec (some x) (fun m _=>ih m) n) l
def tX{α β:Type}(aa:Option α)(f:α->Option β):Option β:=Option.rec none f aa
def vO(T:aG)(t:Nat):Option TE:=tX (ig T (Nat.div t 64)) fun a=>tX (ig a (Nat.mod (Nat.div t 8) 8)) fun b=>tX (ig b (Nat.mod t 8)) fun te=>TE.rec (fun a b c d e f=>some ⟨a,b,c,d,e,f⟩) te
def aX(T:aG)(t:TypeId)(k:TE->Prop):Prop:=Option.rec False k (vO T t)
def lk(s:SV)(k:List SV->Prop):Prop:=
 match s with
 |.agg cs=>k cs
 |.bot=>False|.any=>False|.undef=>False|.tup _=>False|.qb _=>False|.qu _=>False
 |.int q n=>k [.int q n]|.tt=>k [.tt]|.ff=>k [.ff]|.bool b=>k [.bool b]|.str s=>k [.str s]
 |.nilp=>k [.nilp]|.ptr b aa=>k [.ptr b aa]|.ep b i f=>k [.ep b i f]|.nils=>k [.nils]|.sl b=>k [.sl b]
 |.rs z es=>k [.rs z es]|.rp z es i f=>k [.rp z es i f]|.fn f cs=>k [.fn f cs]|.eh f cs=>k [.eh f cs]
 |.mp b=>k [.mp b]|.nilm=>k [.nilm]|.ifc T s=>k [.ifc T s]|.nili=>k [.nili]|.ss b l n=>k [.ss b l n]|.it b=>k [.it b]|.z0=>k [.z0]|.pz q=>k [.pz q]|.tl b m=>k [.tl b m]|.tp b m i f=>k [.tp b m i f]|.ra u aa=>k [.ra u aa]|.rl u n c=>k [.rl u n c]
def qA:Value->SV|.int k n=>.int k n|.bool true=>.tt|.bool false=>.ff|.string s=>.str s.data.toList|.pointer none=>.nilp|.slice none 0 0=>.nils|.map none=>.nilm|.nilIface=>.nili|_=>.any
def yj(v:Value)(k:SV->Prop):Prop:=
 match v with
 |.int q n=>k (.int q n)
 |.bool b=>match b with|true=>k .tt|false=>k .ff
 |.string s=>k (.str s.data.toList)
 |.pointer a=>match a with|none=>k .nilp|some _=>k .any
 |.slice a l c=>match a with
  |none=>match l,c with|0,0=>k .nils|_,_=>k .any
  |some _=>k .any
 |.map r=>match r with|none=>k .nilm|some _=>k .any
 |.nilIface=>k .nili
 |_=>k .any
def az(J:Fr)(x:Operand)(k:SV->Prop):Prop:=
 match x with
 |.tmp t=>av J t k
 |.const v=>yj v k
 |.global _=>k .any
 |.func f=>k (.fn f [])
def mT(J:Fr)(l:List Operand):(List SV->Prop)->Prop:=
 List.rec (fun k=>k []) (fun x _ ih k=>az J x fun s=>ih fun r=>k (s::r)) l
abbrev Ws:=List (Nat×bK)
abbrev bC:=SV->Ws->List Nat->Prop
def oO(s:SV)(k:Bool->Prop):Prop:=
 match s with
 |.tt=>k true
 |.ff=>k false
 |.bool b=>k b
 |_=>False
def Ao(op:BinOp)(k:IntKind)(a b:Int)(K:SV->Prop):Prop:=
 match op with
 |.add=>K (.int k (k.wrap (a+b)))
 |.sub=>K (.int k (k.wrap (a-b)))
 |.mul=>K (.int k (k.wrap (a*b)))
 |.quo=>b≠0/\K (.int k (k.wrap (a.tdiv b)))
 |.rem=>b≠0/\K (.int k (a.tmod b))
 |.and=>K (.int k (k.wrap ((BitVec.ofInt k.bits a&&&BitVec.ofInt k.bits b).toNat:Int)))
 |.or=>K (.int k (k.wrap ((BitVec.ofInt k.bits a|||BitVec.ofInt k.bits b).toNat:Int)))
 |.xor=>K (.int k (k.wrap ((BitVec.ofInt k.bits a ^^^BitVec.ofInt k.bits b).toNat:Int)))
 |.andNot=>K (.int k (k.wrap ((BitVec.ofInt k.bits a&&& ~~~BitVec.ofInt k.bits b).toNat:Int)))
 |.eql=>K (.bool (decide (a=b)))
 |.neq=>K (.bool (decide (¬a=b)))
 |.lss=>K (.bool (decide (a<b)))
 |.leq=>K (.bool (decide (a<=b)))
 |.gtr=>K (.bool (decide (b<a)))
 |.geq=>K (.bool (decide (b<=a)))
 |_=>False
def B6(op:BinOp)(a b:SV)(K:SV->Prop):Prop:=
 match op with
 |.eql=>oO a fun a=>oO b fun b=>K (.bool (a==b))
 |.neq=>oO a fun a=>oO b fun b=>K (.bool (!(a==b)))
 |_=>False
def JM(op:BinOp)(a b:List UInt8)(K:SV->Prop):Prop:=
 match op with
 |.add=>(a.length:Int)+b.length<=9223372036854775807/\K (.str (a++b))
 |.eql=>K (.bool (decide (a=b)))
 |.neq=>K (.bool (!decide (a=b)))
 |.lss=>K (.bool (Op.bytesLess a b))
 |.leq=>K (.bool (Op.bytesLess a b||decide (a=b)))
 |.gtr=>K (.bool (!(Op.bytesLess a b||decide (a=b))))
 |.geq=>K (.bool (!Op.bytesLess a b))
 |_=>False
def eQ(T:aG)(t:TypeId)(k:Nat->Bool->Prop):Prop:=aX T t fun te=>match te.ti with|.struct _=>k te.size true|.array _ _=>k te.size true|.none=>False|_=>k te.size false
def r7(T:aG)(cs:List SV)(off:Nat)(t:TypeId)(k:SV->Prop):Prop:=
 eQ T t fun n agg=>match agg with
  |true=>w4 off cs fun r=>mD n r fun c=>k (.agg c)
  |false=>av cs off k
def Cx(T:aG)(n:Nat):TypeId->SV->SV->(Bool->Prop)->Prop:=
 Nat.rec (fun _ _ _ _=>False)
  (fun _ ih t x y k=>aX T t fun te=>match te.ti,x,y with
   |.int _,.int q a,.int q' b=>if q=q' then k (decide (a=b))else False
   |.bool,x,y=>oO x fun a=>oO y fun b=>k (a==b)
   |.str,.str a,.str b=>k (decide (a=b))
   |.struct fs,.agg xs,.agg ys=>match te.flat with
    |true=>List.rec (fun k=>k true)
     (fun f _ Ok k=>r7 T xs f.1 f.2.1 fun a=>r7 T ys f.1 f.2.1 fun b=>ih f.2.1 a b fun r=>Ok fun r'=>k (r&&r')) fs k
    |false=>False
   |_,_,_=>False) n
def q8(T:aG)(op:BinOp)(t:TypeId)(x y:SV)(K:SV->Prop):Prop:=
 match x,y with
 |.int k a,.int k' b=>
  match op with
  |.shl=>0<=b/\K (.int k (k.wrap (a*2 ^(min b.toNat k.bits))))
  |.shr=>0<=b/\K (.int k (a.fdiv (2 ^(min b.toNat k.bits))))
  |_=>if k=k' then Ao op k a b K else False
 |.str a,.str b=>JM op a b K
 |.tt,y=>aX T t fun te=>match te.ti with|.bool=>B6 op .tt y K|_=>False
 |.ff,y=>aX T t fun te=>match te.ti with|.bool=>B6 op .ff y K|_=>False
 |.bool b,y=>aX T t fun te=>match te.ti with|.bool=>B6 op (.bool b) y K|_=>False
 |.agg xs,.agg ys=>
  match op with
  |.eql=>Cx T 8 t (.agg xs) (.agg ys) fun b=>K (.bool b)
  |.neq=>Cx T 8 t (.agg xs) (.agg ys) fun b=>K (.bool (!b))
  |_=>False
 |.nilp,.nilp=>aX T t fun te=>match te.ti,op with|.ptr _,.eql=>K .tt|.ptr _,.neq=>K .ff|_,_=>False
 |.ptr _ _,.nilp=>aX T t fun te=>match te.ti,op with|.ptr _,.eql=>K .ff|.ptr _,.neq=>K .tt|_,_=>False
 |.ep _ _ _,.nilp=>aX T t fun te=>match te.ti,op with|.ptr _,.eql=>K .ff|.ptr _,.neq=>K .tt|_,_=>False
 |.rp _ _ _ _,.nilp=>aX T t fun te=>match te.ti,op with|.ptr _,.eql=>K .ff|.ptr _,.neq=>K .tt|_,_=>False
 |.rs _ es,.nils=>aX T t fun te=>match te.ti,op with|.slice _,.eql=>K (.qb (es=[]))|_,_=>False
 |_,_=>False
def JV(op:UnOp)(x:SV)(K:SV->Prop):Prop:=
 match op,x with
 |.neg,.int k n=>K (.int k (k.wrap (0-n)))
 |.xor,.int k n=>K (.int k (k.wrap ((BitVec.ofInt k.bits (if k.signed then -1 else k.max)^^^BitVec.ofInt k.bits n).toNat:Int)))
 |.not,.tt=>K .ff
 |.not,.ff=>K .tt
 |.not,.bool b=>K (.bool (!b))
 |_,_=>False
def fX(b:UInt8):List SV:=[.int .u8 (b.toNat:Int)]
def iq(z:List SV)(k:List SV->Prop):Prop:=
 match z with
 |[]=>k []
 |x::xs=>match x with
  |.bot=>False
  |.int q n=>k (.int q n::xs)
  |.ff=>k (.ff::xs)
  |.nilp=>k (.nilp::xs)
  |.nils=>k (.nils::xs)
  |.str s=>k (.str s::xs)
  |.nilm=>k (.nilm::xs)
  |.nili=>k (.nili::xs)
  |.any=>k (.any::xs)
  |_=>False
def Gm(J:Fr)(fs:List (Nat×TypeId×Nat))(ps:List (Nat×Operand)):List SV->(List SV->Prop)->Prop:=
 List.rec (fun cs k=>k cs)
  (fun p _ ih cs k=>av fs p.1 fun q=>az J p.2 fun s=>lk s fun c=>bd c.length q.2.2 (tJ cs q.1 c fun bU=>ih bU k)) ps
def I7(s:SV)(k:Prop):Prop:=
 match s with
 |.int _ _=>k|.tt=>k|.ff=>k|.bool _=>k|.str _=>k|.nilp=>k|.nils=>k|.rs _ _=>k|.rp _ _ _ _=>k|.ra _ _=>k|.rl _ _ _=>k
 |_=>False
def qB(l:List SV)(k:Prop):Prop:=List.rec k (fun x _ ih=>I7 x ih) l
def Uz(J:Fr)(sz:Nat)(ps:List (Nat×Operand)):List (List SV)->(List (List SV)->Prop)->Prop:=
 List.rec (fun es k=>k es)
  (fun p _ ih es k=>az J p.2 fun s=>lk s fun c=>bd c.length sz (qB c (gg es p.1 c fun aS=>ih aS k))) ps
def AtG(n:Int)(k:Nat->Prop):Prop:=∃m:Nat,n=(m:Int)/\k m
def uz(es:List (List SV))(k:List UInt8->Prop):Prop:=∃s,es=s.map fX/\k s
def BP(es:List (List SV))(i:Nat)(k:List SV->Prop):Prop:=∃e,es[i]?=some e/\k e
def tO(T:aG)(cs:List SV)(off:Nat)(t:TypeId)(k:SV->Prop):Prop:=r7 T cs off t k
def jv(T:aG)(e:TypeId)(k:Prop):Prop:=aX T e fun te=>match te.ti with|.int .u8=>k|_=>False
def cH(T:aG)(J:Fr)(h:Hp)(ae:Nat)(op:Op)(K:bC):Prop:=
 match op with
 |.move x=>az J x fun s=>K s [] []
 |.assign x=>az J x fun s=>K s [] []
 |.pick c a b=>az J c fun c=>match c with
  |.tt=>az J a fun s=>K s [] []
  |.ff=>az J b fun s=>K s [] []
  |.bool x=>az J a fun a=>oO a fun a=>az J b fun b=>oO b fun b=>K (.bool (cond x a b)) [] []
  |_=>False
 |.alloc t=>aX T t fun te=>iq te.zero fun z=>K (.ptr ae 0) [(ae,.fix t z)] [ae]
 |.box t x=>az J x fun s=>lk s fun c=>K (.ptr ae 0) [(ae,.fix t c)] [ae]
 |.binOp op t x y _=>az J x fun x=>az J y fun y=>q8 T op t x y fun s=>K s [] []
 |.unOp op _ x=>az J x fun x=>JV op x fun s=>K s [] []
 |.convert a d x=>aX T a fun ta=>aX T d fun te=>az J x fun x=>match ta.ti,te.ti,x with
  |.none,_,_=>False
  |_,.int k,.int _ n=>K (.int k (k.wrap n)) [] []
  |.str,.slice e,.str s=>jv T e (s.length<=4611686018427387903/\K (.sl ae) [(ae,.row e 1 (s.map fX))] [ae])
  |.slice e,.slice _,.sl b=>jv T e (bd a d (av h b fun aT=>match aT with
   |.row t z es=>(match es with|[]=>False|x::xs=>K (.sl b) [(b,.row t z (x::xs))] [b])
   |_=>False))
  |.slice e,.str,.nils=>jv T e (K (.str []) [] [])
  |.slice e,.str,.rs z es=>jv T e (bd z 1 (uz es fun s=>K (.str s) [] []))
  |.slice e,.str,.sl b=>jv T e (av h b fun aT=>match aT with
   |.row _ z es=>bd z 1 (uz es fun s=>K (.str s) [] [b])
   |_=>False)
  |_,_,_=>False
 |.extract x i=>az J x fun x=>match x with
  |.tup vs=>av vs i fun s=>K s [] []
  |_=>False
 |.build t ps=>aX T t fun te=>match te.ti with
  |.struct fs=>iq te.zero fun z=>Gm J fs ps.toList z fun cs=>K (.agg cs) [] []
  |.array _ e=>aX T e fun ee=>iq ee.zero fun _=>(match ps.toList with
   |[]=>iq te.zero fun z=>K (.agg z) [] []
   |_=>False)
  |_=>False
 |.buildSlice t n ps=>aX T t fun te=>match te.ti with
  |.slice e=>aX T e fun ee=>iq ee.zero fun z=>og (n*ee.size) 16777216 (og 1 ee.size (vG n z fun es=>Uz J ee.size ps.toList es fun es=>K (.sl ae) [(ae,.row e ee.size es)] [ae]))
  |_=>False
 |.store t x v=>az J x fun x=>az J v fun v=>lk v fun c=>eQ T t fun n _=>bd c.length n (match x with
  |.ptr b off=>av h b fun aT=>match aT with
   |.fix t cs=>tJ cs off c fun bU=>K .undef [(b,.fix t bU)] [b]
   |_=>False
  |.ep b i f=>av h b fun aT=>match aT with
   |.row t z es=>qB c (BP es i fun e=>tJ e f c fun e'=>K .undef [(b,.row t z (es.set i e'))] [b])
   |_=>False
  |_=>False)
 |.fieldAddr t x f=>aX T t fun te=>az J x fun x=>match te.ti,x with
  |.struct fs,.ptr b off=>av fs f fun p=>vm p.2.2 (K (.ptr b (off+p.1)) [] [])
  |.struct fs,.ep b i aa=>av fs f fun p=>vm p.2.2 (K (.ep b i (aa+p.1)) [] [])
  |.struct fs,.rp z es i aa=>av fs f fun p=>vm p.2.2 (K (.rp z es i (aa+p.1)) [] [])
  |_,_=>False
 |.nilCheck x=>az J x fun x=>match x with
  |.ptr b aa=>K (.ptr b aa) [] []
  |.ep b i f=>K (.ep b i f) [] []
  |.rp z es i f=>K (.rp z es i f) [] []
  |_=>False
 |.slice t x lo Q mx=>aX T t fun te=>az J x fun x=>match mx with
  |some _=>False
  |none=>pP J lo 0 fun l=>match te.ti,x with
   |.str,.str s=>pP J Q s.length fun ag=>(0<=l/\l<=ag/\ag<=(s.length:Int))/\K (.str ((s.take ag.toNat).drop l.toNat)) [] []
   |.slice e,.rs z es=>eQ T e fun q _=>match Nat.beq q z with
    |true=>pP J Q es.length fun ag=>(0<=l/\l<=ag/\ag<=(es.length:Int))/\K (.rs z ((es.take ag.toNat).drop l.toNat)) [] []
    |false=>False
   |_,_=>False
 |.index t x i=>aX T t fun te=>az J x fun x=>az J i fun i=>match te.ti,x,i with
  |.str,.str s,.int _ n=>(0<=n/\n<(s.length:Int))/\K (.int .u8 ((s.getD n.toNat 0).toNat:Int)) [] []
  |_,_,_=>False
 |.field t x f=>aX T t fun te=>az J x fun x=>match te.ti,x with
  |.struct fs,.agg cs=>av fs f fun p=>r7 T cs p.1 p.2.1 fun s=>K s [] []
  |_,_=>False
 |.makeFunc fn first lj=>match fn,first.toList with
  |.func f,[]=>mT J lj.toList fun l=>K (.fn f l) [] []
  |_,_=>False
 |.makeSlice t n c=>aX T t fun te=>match te.ti with
  |.slice e=>aX T e fun ee=>iq ee.zero fun z=>az J n fun n=>az J c fun c=>match n,c with
   |.int _ n,.int _ c=>(c=n/\0<=n/\n*ee.bytes<=281474976710656/\n<=9223372036854775807/\0<ee.size)/\K (.sl ae) [(ae,.row e ee.size (List.replicate n.toNat z))] [ae]
   |_,_=>False
  |_=>False
 |.call c=>match c.callee with
  |.builtin .len=>mT J c.args.toList fun l=>match c.argTypes.toList with
   |[t]=>aX T t fun te=>match te.ti,l with
    |.str,[.str s]=>K (.int .i64 (s.length:Int)) [] []
    |.slice _,[.nils]=>K (.int .i64 0) [] []
    |.slice _,[.rs _ es]=>K (.int .i64 (es.length:Int)) [] []
    |.slice _,[.qu n]=>K (.int .i64 (n:Int)) [] []
    |.slice _,[.sl b]=>av h b fun aT=>match aT with
     |.row _ _ es=>K (.int .i64 (es.length:Int)) [] [b]
     |_=>False
    |_,_=>False
   |_=>False
  |.builtin .min=>mT J c.args.toList fun l=>match l with
   |[.int k x,.int _ y]=>K (.int k (if y<x then y else x)) [] []
   |[.int k x,.int _ y,.int _ z]=>K (.int k (if z<(if y<x then y else x)then z else(if y<x then y else x))) [] []
   |_=>False
  |.builtin .max=>mT J c.args.toList fun l=>match l with
   |[.int k x,.int _ y]=>K (.int k (if y>x then y else x)) [] []
   |[.int k x,.int _ y,.int _ z]=>K (.int k (if z>(if y>x then y else x)then z else(if y>x then y else x))) [] []
   |_=>False
  |_=>False
 |_=>False
 where
 pP (J:Fr) (x:Option Operand) (d:Nat) (k:Int->Prop):Prop:=
  match x with
  |none=>k (d:Int)
  |some x=>az J x fun s=>match s with
   |.int _ n=>k n
   |_=>False
def t_(ws:Ws):Hp->(Hp->Prop)->Prop:=
 List.rec (fun h k=>k h) (fun p _ ih h k=>gg h p.1 p.2 fun h'=>ih h' k) ws
def bF(ws:Ws)(h:Hp):Hp:=ws.foldl (fun h p=>h.set p.1 p.2) h
def QG(T:aG)(t:TypeId):Bool:=Option.rec false (fun te=>match te.ti with|.slice _=>true|_=>false) (vO T t)
def qX(T:aG)(op:Op):Bool:=
 match op with
 |.alloc _=>true
 |.box _ _=>true
 |.buildSlice .. =>true
 |.makeSlice .. =>true
 |.convert _ d _=>QG T d
 |.call c=>match c.callee with|.builtin .append=>true|_=>false
 |_=>false
def bO(P:Program)(m:Sem Next)(w:World)(R:Value->World->Prop):Prop:=
 match m.run P w with
 |.ok (.value v) w'=>R v w'
 |.ok .skip w'=>R Go.undef w'
 |.ok (.enter f args) w'=>Calls P f args w' fun e m5=>∃v,e=.returned v/\R v m5
 |_=>False
def b5(w:World)(L:Nat->Prop)(g:Sg)(ss:List SV)(vs:List Value):Prop:=
 ss.length=vs.length/\∀(i:Nat)(s:SV)(v:Value),ss[i]?=some s->vs[i]?=some v->af w L g s v
structure aq(P:Program)(f:FuncId)(args:List SV)(h:Hp)(K:SV->Hp->Prop):Prop where
 ok:∀(w:World)(X:Nat->Prop)(g:Sg)(vs:List Value),Inv w X g h->b5 w (Ex X g) g args vs->
  bO P (callFunc f vs.toArray) w fun v w'=>∃s h' V,K s h'/\af w' (Ex X V) V s v/\Inv w' X V h'/\Step g.length w g w' V
inductive SX where
 |normal|exit (id:Nat)|ret
abbrev mN:=SX->Fr->Hp->Prop
def SX.of:Exit->Option SX|.normal=>some .normal|.exit id=>some (.exit id)|.ret=>some .ret|_=>none
def jm(m:Nat)(X:Nat->Prop)(w0:World)(b0:Sg)(K:mN)(e:Exit)(a:Act)(w:World):Prop:=
 a.defers=[]/\∃x J h g,SX.of e=some x/\K x J h/\Inv w X g h/\cC w (Ex X g) g J a.tmps/\Step m w0 b0 w g
def eb(P:Program)(m:Nat)(c:Code)(J:Fr)(h:Hp)(K:mN):Prop:=
 ∀w X g tmps,Inv w X g h->cC w (Ex X g) g J tmps->c.wp P (jm m X w g K) ⟨tmps,[]⟩ w
structure b6(P:Program)(m:Nat)(c:Code)(J:Fr)(h:Hp)(K:mN):Prop where
 ok:eb P m (.loop c) J h K
structure cf(P:Program)(m:Nat)(id:Nat)(ops:Array Oper)(J:Fr)(h:Hp)(K:Fr->Hp->Prop):Prop where
 ok:eb P m (.region id ops true) J h fun x J h=>x=.normal/\K J h
def kr(J:Fr)(d:Option Tmp)(s:SV)(K:Fr->Prop):Prop:=
 match d with
 |none=>K J
 |some d=>gg J d s K
def rk(ops:List Oper)(j:Nat):Option Tmp:=(ops[j]?).bind (·.dst)
def Mt(ops:List Oper)(J:Fr)(u:Option (Nat×Bool))(yes no:Fr->Prop):Prop:=
 match u with
 |none=>yes J
 |some (j,want)=>match rk ops j with
  |none=>False
  |some d=>av J d fun s=>match s,want with
   |.tt,true=>yes J
   |.tt,false=>no J
   |.ff,true=>no J
   |.ff,false=>yes J
   |.undef,_=>no J
   |.bool b,true=>(b=true->gg J d .tt yes)/\(b=false->gg J d .ff no)
   |.bool b,false=>(b=true->gg J d .tt no)/\(b=false->gg J d .ff yes)
   |_,_=>False
def A0(h:Hp)(J:Fr)(T:aG)(l:List ResultVar):(List SV->Prop)->Prop:=
 List.rec (fun k=>k [])
  (fun r _ ih k=>match r with
   |.tmp t=>av J t fun s=>ih fun r=>k (s::r)
   |.cell a t=>av J a fun s=>match s with
    |.ptr b off=>av h b fun aT=>match aT with
     |.fix _ cs=>tO T cs off t fun s=>ih fun r=>k (s::r)
     |_=>False
    |_=>False) l
def sn(l:List SV)(k:SV->Prop):Prop:=
 match l with
 |[s]=>k s
 |[]=>k (.tup [])
 |s::s'::l=>k (.tup (s::s'::l))
def yt(T:aG)(fn:Func)(R:SV->Hp->Prop):mN:=fun x J h=>match x with|.normal=>A0 h J T fn.results.toList fun l=>sn l fun s=>R s h|.ret=>A0 h J T fn.results.toList fun l=>sn l fun s=>R s h|.exit _=>False
def vN(args:List SV)(n:Nat)(k:Fr->Prop):Prop:=vG n SV.undef fun r=>w4 args.length r fun r=>fA args r k
section
variable{α:Type} {k:List α->Prop}
def bg{l:List α}:∀{n k},av l n k->∃x,l[n]?=some x/\k x:=by induction l with|nil=>intro n k h;cases h|cons x xs ih=>intro n k h;cases n with|zero=>exact⟨x,rfl,h⟩|succ n=>exact ih (n:=n) h
def jb{l:List α}:∀{n v k},gg l n v k->n<l.length/\k (l.set n v):=by induction l with|nil=>intro n v k h;cases h|cons x xs ih=>intro n v k h;cases n with|zero=>exact⟨sM,h⟩|succ n=>have:=ih (n:=n) (v:=v) (k:=fun r=>k (x::r)) h;simp_all
def yB:∀{n:Nat}{l:List α}{k:List α->Prop},mD n l k->n<=l.length/\k (l.take n):=by intro n;induction n with|zero=>intro l k h;exact⟨by simp,by simpa using(show k []from h)⟩|succ n ih=>intro l k h;cases l with|nil=>cases h|cons x xs=>have:=ih (l:=xs) (k:=fun r=>k (x::r)) h;simp_all
def Ct:∀{n:Nat}{l:List α}{k:List α->Prop},w4 n l k->n<=l.length/\k (l.drop n):=by intro n;induction n with|zero=>intro l k h;exact⟨by simp,by simpa using(show k l from h)⟩|succ n ih=>intro l k h;cases l with|nil=>cases h|cons x xs=>have:=ih (l:=xs) (k:=k) h;simp_all
def iL{l:List α}:∀{ys k},fA l ys k->k (l++ys):=by induction l with|nil=>intro ys k h;exact h|cons x xs ih=>intro ys k h;exact ih (ys:=ys) (k:=fun r=>k (x::r)) h
def ZB{l:List α}:∀{vs k},PS l vs k->vs.length<=l.length/\k (vs++l.drop vs.length):=by
 induction l with
 |nil=>intro vs k h;cases vs with|nil=>exact⟨sM,h⟩|cons v vs=>cases h
 |cons x xs ih=>intro vs k h;cases vs with|nil=>exact⟨sM,h⟩|cons v vs=>have:=ih (vs:=vs) (k:=fun r=>k (v::r)) h;simp_all
def EC{l:List α}:∀{n vs k},tJ l n vs k->n+vs.length<=l.length/\k (l.take n++(vs++l.drop (n+vs.length))):=by
 induction l with
 |nil=>intro n vs k h;cases n with|zero=>have:=ZB (l:=([]:List α)) h;simpa using this|succ n=>cases h
 |cons x xs ih=>intro n vs k h;cases n with|zero=>have:=ZB (l:=x::xs) h;simpa using this|succ n=>have:=ih (n:=n) (vs:=vs) (k:=fun r=>k (x::r)) h;grind
def Jm{n}{x:α}:∀{k},vG n x k->k (List.replicate n x):=by induction n with|zero=>intro k h;exact h|succ n ih=>intro k h;exact ih (k:=fun r=>k (x::r)) h
def Of{h}:∀{ns k},DL h ns k->∃n,ns[h.length]?=some n/\k n:=by
 induction h with
 |nil=>intro ns k h;cases ns with|nil=>cases h|cons n ns=>exact⟨n,rfl,h⟩
 |cons b h ih=>intro ns k hh;cases ns with|nil=>cases hh|cons n ns=>simpa using ih (ns:=ns) (k:=k) hh
def D9{n k}(h:vm n k):n≠0/\k:=by cases n with|zero=>cases h|succ n=>exact⟨G,h⟩
def b2{a b k}(h:bd a b k):a=b/\k:=by unfold bd at h;split at h<;>simp_all
def qq{a b k}(h:og a b k):a<=b/\k:=by unfold og at h;split at h<;>simp_all
def atN{i n:Nat}(h:yA[i]?=some n):n=i:=by have ai:=(ao.1 h).1;have:∀j,j<yA.length->yA[j]?=some j:=dC;simp_all
end
def Zi{w L g s v k}(h:af w L g s v)(o:lk s k):∃cs:List SV,k cs/\cs.length=v.cells.size/\∀(i:Nat)(s:SV)(ag:Value),cs[i]?=some s->v.cells[i]?=some ag->af w L g s ag/\ag.oneCell'=true:=by
 cases h<;>simp only[lk]at o;case agg cs vs hl E h=>exact⟨cs,o,by simpa[Value.cells]using hl,fun i s ag hs hu=>⟨h i s ag hs hu,E i ag hu⟩⟩
 all_goals first
  |cases o
  |(refine⟨_,o,rfl,?_⟩
    intro i s ag hs hu
    cases i with
    |zero=>
     simp[Value.cells]at hs hu
     subst hs;subst hu
     exact⟨by first|(constructor;done)|(constructor<;>assumption)|exact .eD ‹_›|exact .hb ‹_›|exact .c9 ‹_›|exact .dE ‹_›|exact .fM ‹_›,rfl⟩
    |succ i=>simp at hs)
def apY{s k}(h:I7 s k):k/\∀w L g V v,af w L g s v->af w L V s v:=by cases s<;>simp only[I7]at h<;>refine⟨h,fun w L g V v D=>?_⟩<;>cases D<;>constructor<;>assumption
def Ez{l k}(h:qB l k):k/\∀s∈l,∀w L g V v,af w L g s v->af w L V s v:=by induction l with|nil=>exact⟨h,sM⟩|cons x xs ih=>have⟨E,F⟩:=apY h;have⟨h3,h4⟩:=ih E;grind
def aax{w L g}(s):af w L g (.str s.data.toList) (.string s):=by cases s with|mk d=>exact .str
def bA(w:World)(L:Nat->Prop)(g:Sg)(J:Fr)(A:Operand->Value)(x:Operand):Prop:=
 match x with
 |.tmp t=>∀s,J[t]?=some s->af w L g s (A (.tmp t))
 |.const v=>A (.const v)=v
 |.global u=>A (.global u)=.pointer (some ⟨u,0,none⟩)
 |.func f=>A (.func f)=.func (.func f) #[] #[]
def bS{J}{x}{k}(h:az J x k):∃s,k s/\∀w L g A,bA w L g J A x->af w L g s (A x):=by
 cases x with
 |tmp t=>have⟨s,hs,o⟩:=bg h;exact⟨s,o,fun w L g A aF=>aF s hs⟩
 |const v=>
  have h:yj v k:=h;have:∃s,k s/\∀w L g,af w L g s v:=by unfold yj at h;split at h;exact⟨_,h,fun _ _ _=>.int⟩;split at h;exact⟨_,h,fun _ _ _=>.tt⟩;exact⟨_,h,fun _ _ _=>.ff⟩;exact⟨_,h,fun _ _ _=>aax _⟩;split at h;exact⟨_,h,fun _ _ _=>.nilp⟩;exact⟨_,h,fun _ _ _=>.any⟩;split at h;split at h;exact⟨_,h,fun _ _ _=>.nils⟩;exact⟨_,h,fun _ _ _=>.any⟩;exact⟨_,h,fun _ _ _=>.any⟩;split at h;exact⟨_,h,fun _ _ _=>.nilm⟩;exact⟨_,h,fun _ _ _=>.any⟩;exact⟨_,h,fun _ _ _=>.nili⟩;exact⟨_,h,fun _ _ _=>.any⟩
  have⟨s,o,D⟩:=this;exact⟨s,o,fun w L g A aF=>by rw[show A (.const v)=v from aF];exact D w L g⟩
 |global u=>exact⟨.any,h,fun _ _ _ _ _=>.any⟩
 |func f=>exact⟨.fn f [],h,fun w L g A aF=>by rw[show A (.func f)=_ from aF];exact .fn rfl sM⟩
def nN{J l}:∀{k},mT J l k->∃ss,k ss/\∀w L g A,(∀x∈l,bA w L g J A x)->b5 w L g ss (l.map A):=by induction l with|nil=>intro k h;exact⟨[],h,fun w L g A _=>⟨rfl,sM⟩⟩|cons x l ih=>intro k h;have⟨s,E,D⟩:=bS h;have⟨ss,F,gK⟩:=ih E;refine⟨s::ss,F,fun w L g A aF=>?_⟩;have a:=D w L g A (aF x sM);have b:=gK w L g A fun y hy=>aF y (by simp[hy]);refine⟨by simpa using b.1,fun i s' v hs hv=>?_⟩;cases i with|zero=>grind|succ i=>exact b.2 i s' v (by simpa using hs) (by simpa using hv)
def uC{s k}(h:oO s k):∃b,k b/\∀w L g v,af w L g s v->v=.bool b:=by unfold oO at h;split at h;exact⟨_,h,fun w L g v D=>by cases D;rfl⟩;exact⟨_,h,fun w L g v D=>by cases D;rfl⟩;exact⟨_,h,fun w L g v D=>by cases D;rfl⟩;cases h
def hQ(P:Program)(t:TypeId):TI:=
 match P.underlying t with
 |some (.int k)=>.int k
 |some .bool=>.bool
 |some .string=>.str
 |some (.struct fs)=>if fs.toList.all (fun f=>(P.info? f.type).isSome)then .struct (fs.toList.map fun f=>(f.offset,f.type,P.cellsOf f.type))else .none
 |some (.array n e)=>.array n e
 |some (.slice e)=>.slice e
 |some (.pointer e)=>.ptr e
 |some (.map k e)=>.map k e
 |some (.interface _)=>.iface
 |some _=>.other
 |none=>.none
def w9(P:Program)(t:TypeId):Bool:=
 match P.underlying t with
 |some (.struct fs)=> !P.stoodInHeld t&&fs.toList.all (fun f=>f.name != "_")&& !P.eqGuardType P.depth t
 |_=>false
def zeroOf(i:TypeInfo):List SV:=
 match i.zero with
 |some z=>if z.cells.toList.all (·.oneCell')&&z.cells.size==i.size then z.cells.toList.map qA else[.bot]
 |none=>[.bot]
def Bq(i:TypeInfo):Bool:=match i.zero with|some (.agg _)=>true|_=>false
def bk(P:Program)(t:TypeId):TE:=
 match P.info? t with
 |none=>⟨.none,0,0,[.bot],false,false⟩
 |some i=>⟨hQ P t,i.size,i.bytes,zeroOf i,w9 P t,Bq i⟩
def abq(P:Program)(n:Nat):aG:=(List.range n).map fun i=>(List.range 8).map fun j=>(List.range 8).map fun k=>bk P (64*i+8*j+k)
def bl(P:Program)(T:aG):Prop:=∀t te,vO T t=some te->te=bk P t
def Au{β:Type}(l:List β):∀n,ig l n=l[n]?:=by induction l with|nil=>intro n;rfl|cons x l ih=>intro n;cases n with|zero=>rfl|succ n=>exact ih n
def E2{α β:Type}{aa}{f:α->Option β}{b}(h:tX aa f=some b):∃a,aa=some a/\f a=some b:=by cases aa with|none=>simp[tX]at h|some a=>exact⟨a,rfl,h⟩
def O8{β:Type}{f}{n i}{b:β}(h:((List.range n).map f)[i]?=some b):b=f i:=by grind
def atW(P)(n){T}(h:abq P n=T):bl P T:=by subst h;intro t te ht;have⟨a,ha,ht⟩:=E2 ht;have⟨b,M,ht⟩:=E2 ht;have⟨QX,hq,e⟩:=E2 ht;obtain rfl:QX=te:=mJ e;have ht:=hq;rw[Au]at ha M ht;have ha:=O8 (show((List.range n).map _)[Nat.div t 64]?=some a from ha);subst ha;have M:=O8 M;subst M;have ht:=O8 ht;rw[ht];congr 1;show 64*(t/64)+8*(t/8 % 8)+t % 8=t;omega
section
variable{P:Program} {T:aG}
def JU{t:TypeId}{k}(h:aX T t k):∃te,vO T t=some te/\k te:=by unfold aX at h;generalize vO T t=aa at h;cases aa<;>simp_all
def aun{t:TypeId}{te k}(h:vO T t=some te)(o:k te):aX T t k:=by unfold aX;rw[h];exact o
def b4(hT:bl P T){t:TypeId}{k}(h:aX T t k):k (bk P t):=by have⟨te,E,F⟩:=JU h;rw[<-hT t te E];exact F
def al2{t:TypeId}(h:(bk P t).ti≠ .none):∃i,P.info? t=some i/\bk P t=⟨hQ P t,i.size,i.bytes,zeroOf i,w9 P t,Bq i⟩:=by unfold bk at h⊢;grind
def bm{t:TypeId}{x}(h:(bk P t).ti=x)(hx:x≠ .none):hQ P t=x/\∃i,P.info? t=some i/\(bk P t).size=i.size/\(bk P t).bytes=i.bytes/\(bk P t).zero=zeroOf i/\(bk P t).flat=w9 P t:=by have⟨i,Q,H⟩:=al2 (P:=P) (t:=t) (by rw[h];exact hx);simp_all
def so{t:TypeId}{k}(h:hQ P t=.int k):P.underlying t=some (.int k):=by unfold hQ at h;grind
def JW{t:TypeId}(h:hQ P t=.bool):P.underlying t=some .bool:=by unfold hQ at h;grind
def qG{t:TypeId}(h:hQ P t=.str):P.underlying t=some .string:=by unfold hQ at h;grind
def vV{t:TypeId}{fs}(h:hQ P t=.struct fs):∃fields,P.underlying t=some (.struct fields)/\fs=(fields.toList.map fun f=>(f.offset,f.type,P.cellsOf f.type))/\∀f∈fields.toList,(P.info? f.type).isSome=true:=by unfold hQ at h;grind
def vU{t:TypeId}{n}{e:TypeId}(h:hQ P t=.array n e):P.underlying t=some (.array n e):=by unfold hQ at h;grind
def fi{t:TypeId}{e:TypeId}(h:hQ P t=.slice e):P.underlying t=some (.slice e):=by unfold hQ at h;grind
def pA{t:TypeId}{k e:TypeId}(h:hQ P t=.map k e):P.underlying t=some (.map k e):=by unfold hQ at h;grind
def abF{t:TypeId}(h:hQ P t=.iface):∃ms,P.underlying t=some (.interface ms):=by unfold hQ at h;grind
def Bh{t:TypeId}{e:TypeId}(h:hQ P t=.ptr e):P.underlying t=some (.pointer e):=by unfold hQ at h;grind
def bB{t:TypeId}{d:TypeDesc}(h:P.underlying t=some d)(w):(underlying t).run P w=.ok d w:=en h w
def EM{t:TypeId}{i:TypeInfo}(h:P.info? t=some i)(w):(typeInfo t).run P w=.ok i w:=by simp[typeInfo,h]
def run_sizeOf{t:TypeId}{i:TypeInfo}(h:P.info? t=some i)(w):(sizeOf t).run P w=.ok i.size w:=by simp[sizeOf,EM h]
def kY(hT:bl P T){t:TypeId}{k}(h:eQ T t k):∃n b,k n b/\(∀w,(isAgg t).run P w=.ok b w)/\(∀w,(sizeOf t).run P w=.ok n w):=by
 unfold eQ at h;have h:=b4 hT h;have key:∀x:TI,(bk P t).ti=x->x≠ .none->(∀b,(∀w,(isAgg t).run P w=.ok b w)->k (bk P t).size b->∃n b,k n b/\(∀w,(isAgg t).run P w=.ok b w)/\(∀w,(sizeOf t).run P w=.ok n w)):=by intro x hx hn b M o;have⟨_,i,Q,hs,_⟩:=bm hx hn;exact⟨_,b,o,M,fun w=>by rw[hs];exact run_sizeOf Q w⟩
 cases ax:(bk P t).ti with|struct fs=>rw[ax]at h;have⟨fields,hu,_⟩:=vV (bm ax sM).1;exact key _ ax sM true (fun w=>by simp[isAgg,bB hu]) h|array n e=>rw[ax]at h;have hu:=vU (bm ax sM).1;exact key _ ax sM true (fun w=>by simp[isAgg,bB hu]) h|none=>simp_all|int q=>rw[ax]at h;exact key _ ax sM false (fun w=>by simp[isAgg,bB (so (bm ax sM).1)]) h|bool=>rw[ax]at h;exact key _ ax sM false (fun w=>by simp[isAgg,bB (JW (bm ax sM).1)]) h|str=>rw[ax]at h;exact key _ ax sM false (fun w=>by simp[isAgg,bB (qG (bm ax sM).1)]) h|slice e=>rw[ax]at h;exact key _ ax sM false (fun w=>by simp[isAgg,bB (fi (bm ax sM).1)]) h|ptr e=>rw[ax]at h;exact key _ ax sM false (fun w=>by simp[isAgg,bB (Bh (bm ax sM).1)]) h|map a e=>rw[ax]at h;exact key _ ax sM false (fun w=>by simp[isAgg,bB (pA (bm ax sM).1)]) h|iface=>rw[ax]at h;have⟨ms,hu⟩:=abF (bm ax sM).1;exact key _ ax sM false (fun w=>by simp[isAgg,bB hu]) h|other=>rw[ax]at h;refine key _ ax sM false (fun w=>?_) h;have I:=(bm ax sM).1;cases hu:P.underlying t with|none=>simp[hQ,hu]at I|some d=>cases d<;>simp only[hQ,hu]at I<;>(try split at I)<;>(try(simp at I;done))<;>simp[isAgg,bB hu]
def PT{g ae e}(u):bM (g.set ae e) u->e.owns u\/bM g u:=by rintro⟨i,e',Q,U⟩;rw[bu]at Q;split at Q;simp_all;exact .inr ⟨i,e',Q,U⟩
def lR{w}{X}{g}{h}(O:Inv w X g h){n:Nat}(hf:h[n]?=some .fresh):g[n]?=some .fresh:=by
 have ai:=(ao.1 hf).1;have hs:n<g.length:=by rw[O.len];exact ai
 have H:=aD hs;have:=O.ok n _ _ hf H;rw[H];cases ak:g[n]<;>rw[ak]at this<;>simp_all[aB]
def pM{w w'}{X}{g}{h}(O:Inv w X g h){n}(hf:h[n]?=some .fresh){e}(H:e.zm w.heap.size) (I:w'.os=w.os)(ht:w'.tape=w.tape)(b3:w'.output=w.output){aa}(hw:w'.heap=w.heap.push aa):Step g.length w g w' (g.set n e)where
 os:=I
 tape:=ht
 output:=b3
 size:=by rw[hw];simp
 frame u U _:=by grind
 gG u U ai:=by
  rcases PT u U with E|E
  ·have:=H.eq E;omega
  ·exact E
 g_ i e' Q aK cW:=by
  rw[bu]
  by_cases am:n=i
  ·subst am;rw[lR O hf]at aK;simp at aK;exact absurd (by rw[<-aK];trivial) cW
  simp_all
def qW{w w'}{X}{g}{h}(O:Inv w X g h){n}(hf:h[n]?=some .fresh){e}(H:e.zm w.heap.size) (I:w'.os=w.os)(ht:w'.tape=w.tape)(b3:w'.output=w.output){aa}(hw:w'.heap=w.heap.push aa){b} (M:aB w' (Ex X (g.set n e)) (g.set n e) b e):Inv w' X (g.set n e) (h.set n b):=by have hS:=pM O hf H I ht b3 hw;have H2:=lR O hf;have NA:=(ao.1 H2).1;refine⟨by simp[O.len],fun i b' e' aP aK=>?_,fun i e' u aK U=>?_,fun i j e1 e2 u E F g1 g2=>?_,fun u hx bf=>?_,fun u hx=>?_⟩;rw[bu]at aP aK;by_cases am:n=i;simp_all;rw[ay am]at aP aK;refine(O.ok i b' e' aP aK).step hS (aC _) fun u U=>?_;rw[hw,Array.getElem?_push,ay (by have:=O.lt i e' u aK U;omega)];rw[bu]at aK;rw[hw,Array.size_push];by_cases am:n=i;subst am;rw[au rfl,au NA]at aK;simp at aK;subst aK;have:=H.eq U;omega;rw[ay am]at aK;have:=O.lt i e' u aK U;omega;rw[bu]at E F;by_cases Q:n=i<;>by_cases hj:n=j;omega;subst Q;rw[au rfl,au NA]at E;rw[ay hj]at F;simp at E;subst E;have:=H.eq g1;subst this;have:=O.lt j e2 _ F g2;omega;subst hj;rw[au rfl,au NA]at F;rw[ay Q]at E;simp at F;subst F;have:=H.eq g2;subst this;have:=O.lt i e1 _ E g1;omega;rw[ay Q]at E;rw[ay hj]at F;exact O.inj i j e1 e2 u E F g1 g2;rcases PT u bf with E|E;have:=H.eq E;subst this;have:=O.df _ hx;omega;exact O.cU u hx E;have:=O.df u hx;grind
def pE{w w'}{g}{n:Nat}{e}{u}(H:g[n]?=some e)(U:e.owns u) (I:w'.os=w.os)(ht:w'.tape=w.tape)(b3:w'.output=w.output)(hs:w'.heap.size=w.heap.size)(hw:∀k,k≠u->w'.heap[k]?=w.heap[k]?):Step g.length w g w' g where
 os:=I
 tape:=ht
 output:=b3
 size:=G
 frame k _ o:=hw k fun h=>o (h▸⟨n,e,H,U⟩)
 gG k o _:=o
 g_ i e' _ aK _:=.inl aK
def pC{w w'}{X}{g}{h}(O:Inv w X g h){n}{e}{u}(H:g[n]?=some e)(U:e.owns u) (I:w'.os=w.os)(ht:w'.tape=w.tape)(b3:w'.output=w.output)(hs:w'.heap.size=w.heap.size)(hw:∀k,k≠u->w'.heap[k]?=w.heap[k]?){b} (M:aB w' (Ex X g) g b e):Inv w' X g (h.set n b):=by have hS:=pE H U I ht b3 hs hw;refine⟨by simp[O.len],fun i b' e' aP aK=>?_,fun i e' k aK o=>by rw[hs];exact O.lt i e' k aK o,O.inj,O.cU,fun k hx=>by rw[hs];exact O.df k hx⟩;rw[bu]at aP;by_cases am:n=i;simp_all;rw[ay am]at aP;exact adk
end
