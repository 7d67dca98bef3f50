/- The symbolic executor of this seat's proofs: what a run of the program's code comes to, reckoned in the passing style (by recursors, so that Lean's kernel takes the elaborator's steps). No statement of the seat is proved here. -/
import Derived.Test.YthlomoacacebeacSxA
namespace Go.Sx

/-! ### types -/
inductive TI where
  | int (k : IntKind) | bool | str
  | struct (fs : List (Nat × TypeId × Nat))
  | array (n : Nat) (e : TypeId)
  | slice (e : TypeId)
  | ptr (e : TypeId)
  | other | none
  deriving Inhabited, DecidableEq

structure TE where
  ti : TI
  size : Nat
  bytes : Nat
  zero : List SV
  flat : Bool
  deriving Inhabited
abbrev Tab := List TE

/-! ### the passing style -/
noncomputable def nthK {α : Type} (l : List α) : Nat → (α → Prop) → Prop :=
  List.rec (motive := fun _ => Nat → (α → Prop) → Prop) (fun _ _ => False) (fun x _ ih n k => Nat.rec (motive := fun _ => Prop) (k x) (fun m _ => ih m k) n) l
noncomputable def setK {α : Type} (l : List α) : Nat → α → (List α → Prop) → Prop :=
  List.rec (motive := fun _ => Nat → α → (List α → Prop) → Prop) (fun _ _ _ => False)
    (fun x xs ih n v k => Nat.rec (motive := fun _ => Prop) (k (v :: xs)) (fun m _ => ih m v fun r => k (x :: r)) n) l
noncomputable def takeK {α : Type} (n : Nat) : List α → (List α → Prop) → Prop :=
  Nat.rec (motive := fun _ => List α → (List α → Prop) → Prop) (fun _ k => k [])
    (fun _ ih l k => List.rec (motive := fun _ => Prop) False (fun x xs _ => ih xs fun r => k (x :: r)) l) n
noncomputable def dropK {α : Type} (n : Nat) : List α → (List α → Prop) → Prop :=
  Nat.rec (motive := fun _ => List α → (List α → Prop) → Prop) (fun l k => k l)
    (fun _ ih l k => List.rec (motive := fun _ => Prop) False (fun _ xs _ => ih xs k) l) n
noncomputable def appK {α : Type} (l : List α) : List α → (List α → Prop) → Prop :=
  List.rec (motive := fun _ => List α → (List α → Prop) → Prop) (fun ys k => k ys) (fun x _ ih ys k => ih ys fun r => k (x :: r)) l
noncomputable def overK {α : Type} (l : List α) : List α → (List α → Prop) → Prop :=
  List.rec (motive := fun _ => List α → (List α → Prop) → Prop) (fun vs k => List.rec (motive := fun _ => Prop) (k []) (fun _ _ _ => False) vs)
    (fun x xs ih vs k => List.rec (motive := fun _ => Prop) (k (x :: xs)) (fun v vs' _ => ih vs' fun r => k (v :: r)) vs) l
/-- 'vs' laid over 'l' from place n on. -/
noncomputable def putK {α : Type} (l : List α) : Nat → List α → (List α → Prop) → Prop :=
  List.rec (motive := fun _ => Nat → List α → (List α → Prop) → Prop) (fun n vs k => Nat.rec (motive := fun _ => Prop) (overK [] vs k) (fun _ _ => False) n)
    (fun x xs ih n vs k => Nat.rec (motive := fun _ => Prop) (overK (x :: xs) vs k) (fun m _ => ih m vs fun r => k (x :: r)) n) l
noncomputable def repK {α : Type} (n : Nat) (x : α) (k : List α → Prop) : Prop := Nat.rec (motive := fun _ => (List α → Prop) → Prop) (fun k => k []) (fun _ ih k => ih fun r => k (x :: r)) n k

def neK (n : Nat) (k : Prop) : Prop := match n with | 0 => False | _ + 1 => k
def eqNK (a b : Nat) (k : Prop) : Prop := match Nat.beq a b with | true => k | false => False
def leNK (a b : Nat) (k : Prop) : Prop := match Nat.ble a b with | true => k | false => False

def supply : List Nat := [0,1,2,3,4,5,6,7,8,9,10,11,12,13,14,15,16,17,18,19,20,21,22,23,24,25,26,27,28,29,30,31,32,33,34,35,36,37,38,39,40,41,42,43,44,45,46,47,48,49,50,51,52,53,54,55,56,57,58,59,60,61,62,63]
/-- The next block's number, as a numeral. -/
noncomputable def idK (h : Hp) : List Nat → (Nat → Prop) → Prop :=
  List.rec (motive := fun _ => List Nat → (Nat → Prop) → Prop) (fun ns k => List.rec (motive := fun _ => Prop) False (fun n _ _ => k n) ns)
    (fun _ _ ih ns k => List.rec (motive := fun _ => Prop) False (fun _ ns' _ => ih ns' k) ns) h

def tyK (T : Tab) (t : TypeId) (k : TE → Prop) : Prop := nthK T t k

/-- The cells of a value: a value of one cell, or a struct's. -/
def cellsK (s : SV) (k : List SV → Prop) : Prop :=
  match s with
  | .agg cs => k cs
  | .bot => False | .any => False | .undef => False | .tup _ => False | .qb _ => False
  | .int q n => k [.int q n] | .tt => k [.tt] | .ff => k [.ff] | .bool b => k [.bool b] | .str s => k [.str s]
  | .nilp => k [.nilp] | .ptr b o => k [.ptr b o] | .ep b i f => k [.ep b i f] | .nils => k [.nils] | .sl b => k [.sl b]
  | .rs z es => k [.rs z es] | .rp z es i f => k [.rp z es i f] | .fn f cs => k [.fn f cs]

def ofV : Value → SV
  | .int k n => .int k n
  | .bool true => .tt
  | .bool false => .ff
  | .string s => .str s.data.toList
  | .pointer none => .nilp
  | .slice none 0 0 => .nils
  | _ => .any
def ofVK (v : Value) (k : SV → Prop) : Prop :=
  match v with
  | .int q n => k (.int q n)
  | .bool b => match b with | true => k .tt | false => k .ff
  | .string s => k (.str s.data.toList)
  | .pointer a => match a with | none => k .nilp | some _ => k .any
  | .slice a l c => match a with
    | none => match l, c with | 0, 0 => k .nils | _, _ => k .any
    | some _ => k .any
  | _ => k .any

noncomputable def evK (F : Fr) (x : Operand) (k : SV → Prop) : Prop :=
  match x with
  | .tmp t => nthK F t k
  | .const v => ofVK v k
  | .global _ => k .any
  | .func f => k (.fn f [])
noncomputable def evsK (F : Fr) (l : List Operand) : (List SV → Prop) → Prop :=
  List.rec (motive := fun _ => (List SV → Prop) → Prop) (fun k => k []) (fun x _ ih k => evK F x fun s => ih fun r => k (s :: r)) l

abbrev Ws := List (Nat × Blk)
abbrev Kop := SV → Ws → List Nat → Prop

def asB (s : SV) (k : Bool → Prop) : Prop :=
  match s with
  | .tt => k true
  | .ff => k false
  | .bool b => k b
  | _ => False

/-! ### operators -/
def intK (op : BinOp) (k : IntKind) (a b : Int) (K : SV → Prop) : Prop :=
  match op with
  | .add => K (.int k (k.wrap (a + b)))
  | .sub => K (.int k (k.wrap (a - b)))
  | .mul => K (.int k (k.wrap (a * b)))
  | .quo => b ≠ 0 ∧ K (.int k (k.wrap (a.tdiv b)))
  | .rem => b ≠ 0 ∧ K (.int k (a.tmod b))
  | .and => K (.int k (k.wrap ((BitVec.ofInt k.bits a &&& BitVec.ofInt k.bits b).toNat : Int)))
  | .or => K (.int k (k.wrap ((BitVec.ofInt k.bits a ||| BitVec.ofInt k.bits b).toNat : Int)))
  | .xor => K (.int k (k.wrap ((BitVec.ofInt k.bits a ^^^ BitVec.ofInt k.bits b).toNat : Int)))
  | .andNot => K (.int k (k.wrap ((BitVec.ofInt k.bits a &&& ~~~ BitVec.ofInt k.bits b).toNat : Int)))
  | .eql => K (.bool (decide (a = b)))
  | .neq => K (.bool (decide (¬ a = b)))
  | .lss => K (.bool (decide (a < b)))
  | .leq => K (.bool (decide (a ≤ b)))
  | .gtr => K (.bool (decide (b < a)))
  | .geq => K (.bool (decide (b ≤ a)))
  | _ => False

def boolK (op : BinOp) (a b : SV) (K : SV → Prop) : Prop :=
  match op with
  | .eql => asB a fun a => asB b fun b => K (.bool (a == b))
  | .neq => asB a fun a => asB b fun b => K (.bool (!(a == b)))
  | _ => False

def strK (op : BinOp) (a b : List UInt8) (K : SV → Prop) : Prop :=
  match op with
  | .add => (a.length : Int) + b.length ≤ 9223372036854775807 ∧ K (.str (a ++ b))
  | .eql => K (.bool (decide (a = b)))
  | .neq => K (.bool (!decide (a = b)))
  | .lss => K (.bool (Op.bytesLess a b))
  | .leq => K (.bool (Op.bytesLess a b || decide (a = b)))
  | .gtr => K (.bool (!(Op.bytesLess a b || decide (a = b))))
  | .geq => K (.bool (!Op.bytesLess a b))
  | _ => False

def isAggK (T : Tab) (t : TypeId) (k : Nat → Bool → Prop) : Prop := tyK T t fun te => match te.ti with
  | .struct _ => k te.size true
  | .array _ _ => k te.size true
  | .none => False
  | _ => k te.size false

/-- A part of a struct. -/
noncomputable def partK (T : Tab) (cs : List SV) (off : Nat) (t : TypeId) (k : SV → Prop) : Prop :=
  isAggK T t fun n agg => match agg with
    | true => dropK off cs fun r => takeK n r fun c => k (.agg c)
    | false => nthK cs off k

/-- Two values of one flat type. -/
noncomputable def eqK (T : Tab) (n : Nat) : TypeId → SV → SV → (Bool → Prop) → Prop :=
  Nat.rec (motive := fun _ => TypeId → SV → SV → (Bool → Prop) → Prop) (fun _ _ _ _ => False)
    (fun _ ih t x y k => tyK T t fun te => match te.ti, x, y with
      | .int _, .int q a, .int q' b => if q = q' then k (decide (a = b)) else False
      | .bool, x, y => asB x fun a => asB y fun b => k (a == b)
      | .str, .str a, .str b => k (decide (a = b))
      | .struct fs, .agg xs, .agg ys => match te.flat with
        | true => List.rec (motive := fun _ => (Bool → Prop) → Prop) (fun k => k true)
            (fun f _ ih' k => partK T xs f.1 f.2.1 fun a => partK T ys f.1 f.2.1 fun b => ih f.2.1 a b fun r => ih' fun r' => k (r && r')) fs k
        | false => False
      | _, _, _ => False) n

noncomputable def binK (T : Tab) (op : BinOp) (t : TypeId) (x y : SV) (K : SV → Prop) : Prop :=
  match x, y with
  | .int k a, .int k' b =>
    match op with
    | .shl => 0 ≤ b ∧ K (.int k (k.wrap (a * 2 ^ (min b.toNat k.bits))))
    | .shr => 0 ≤ b ∧ K (.int k (a.fdiv (2 ^ (min b.toNat k.bits))))
    | _ => if k = k' then intK op k a b K else False
  | .str a, .str b => strK op a b K
  | .tt, y => tyK T t fun te => match te.ti with | .bool => boolK op .tt y K | _ => False
  | .ff, y => tyK T t fun te => match te.ti with | .bool => boolK op .ff y K | _ => False
  | .bool b, y => tyK T t fun te => match te.ti with | .bool => boolK op (.bool b) y K | _ => False
  | .agg xs, .agg ys =>
    match op with
    | .eql => eqK T 8 t (.agg xs) (.agg ys) fun b => K (.bool b)
    | .neq => eqK T 8 t (.agg xs) (.agg ys) fun b => K (.bool (!b))
    | _ => False
  | .nilp, .nilp => tyK T t fun te => match te.ti, op with | .ptr _, .eql => K .tt | .ptr _, .neq => K .ff | _, _ => False
  | .ptr _ _, .nilp => tyK T t fun te => match te.ti, op with | .ptr _, .eql => K .ff | .ptr _, .neq => K .tt | _, _ => False
  | .ep _ _ _, .nilp => tyK T t fun te => match te.ti, op with | .ptr _, .eql => K .ff | .ptr _, .neq => K .tt | _, _ => False
  | .rp _ _ _ _, .nilp => tyK T t fun te => match te.ti, op with | .ptr _, .eql => K .ff | .ptr _, .neq => K .tt | _, _ => False
  | .rs _ es, .nils => tyK T t fun te => match te.ti, op with | .slice _, .eql => K (.qb (es = [])) | _, _ => False
  | _, _ => False

def unK (op : UnOp) (x : SV) (K : SV → Prop) : Prop :=
  match op, x with
  | .neg, .int k n => K (.int k (k.wrap (0 - n)))
  | .xor, .int k n => K (.int k (k.wrap ((BitVec.ofInt k.bits (if k.signed then -1 else k.max) ^^^ BitVec.ofInt k.bits n).toNat : Int)))
  | .not, .tt => K .ff
  | .not, .ff => K .tt
  | .not, .bool b => K (.bool (!b))
  | _, _ => False

/-! ### operations without a call -/
def byteCell (b : UInt8) : List SV := [.int .u8 (b.toNat : Int)]
/-- A type's zero value, if it is one that is written out. -/
def zeroK (z : List SV) (k : List SV → Prop) : Prop :=
  match z with
  | [] => k []
  | x :: xs => match x with
    | .bot => False
    | .int q n => k (.int q n :: xs)
    | .ff => k (.ff :: xs)
    | .nilp => k (.nilp :: xs)
    | .nils => k (.nils :: xs)
    | .str s => k (.str s :: xs)
    | _ => False
noncomputable def buildK (F : Fr) (fs : List (Nat × TypeId × Nat)) (ps : List (Nat × Operand)) : List SV → (List SV → Prop) → Prop :=
  List.rec (motive := fun _ => List SV → (List SV → Prop) → Prop) (fun cs k => k cs)
    (fun p _ ih cs k => nthK fs p.1 fun q => evK F p.2 fun s => cellsK s fun c => eqNK c.length q.2.2 (putK cs q.1 c fun cs' => ih cs' k)) ps
/-- Values that hang on no block of one's own. -/
def pureK (s : SV) (k : Prop) : Prop :=
  match s with
  | .int _ _ => k | .tt => k | .ff => k | .bool _ => k | .str _ => k | .nilp => k | .nils => k | .rs _ _ => k | .rp _ _ _ _ => k
  | _ => False
noncomputable def puresK (l : List SV) (k : Prop) : Prop := List.rec (motive := fun _ => Prop) k (fun x _ ih => pureK x ih) l
noncomputable def elemsK (F : Fr) (sz : Nat) (ps : List (Nat × Operand)) : List (List SV) → (List (List SV) → Prop) → Prop :=
  List.rec (motive := fun _ => List (List SV) → (List (List SV) → Prop) → Prop) (fun es k => k es)
    (fun p _ ih es k => evK F p.2 fun s => cellsK s fun c => eqNK c.length sz (puresK c (setK es p.1 c fun es' => ih es' k))) ps

/-- A place, as a numeral. -/
def AtG (n : Int) (k : Nat → Prop) : Prop := ∃ m : Nat, n = (m : Int) ∧ k m
/-- The bytes of a row. -/
def StrG (es : List (List SV)) (k : List UInt8 → Prop) : Prop := ∃ s, es = s.map byteCell ∧ k s

/-- Element i of a row. -/
def ElG (es : List (List SV)) (i : Nat) (k : List SV → Prop) : Prop := ∃ e, es[i]? = some e ∧ k e

/-- What lies at cells 'cs' from 'off' on, read at type t. -/
noncomputable def readK (T : Tab) (cs : List SV) (off : Nat) (t : TypeId) (k : SV → Prop) : Prop := partK T cs off t k

def isByteK (T : Tab) (e : TypeId) (k : Prop) : Prop := tyK T e fun te => match te.ti with | .int .u8 => k | _ => False
/-- What is appended to: the elements, the block that is given up, the block that is looked at. -/
def dstK (h : Hp) (e : TypeId) (z : Nat) (x : SV) (k : List (List SV) → Ws → List Nat → Prop) : Prop :=
  match x with
  | .nils => k [] [] []
  | .sl b => nthK h b fun blk => match blk with
    | .row t q es => eqNK t e (eqNK q z (k es [(b, .dead)] [b]))
    | _ => False
  | _ => False
/-- What is appended. -/
def srcK (T : Tab) (h : Hp) (u e : TypeId) (z : Nat) (x : SV) (k : List (List SV) → List Nat → Prop) : Prop :=
  tyK T u fun tu => match tu.ti, x with
  | .slice _, .rs q es => eqNK q z (k es [])
  | .slice _, .nils => k [] []
  | .slice _, .sl b => nthK h b fun blk => match blk with
    | .row _ q es => eqNK q z (k es [b])
    | _ => False
  | .str, .str s => isByteK T e (eqNK z 1 (k (s.map byteCell) []))
  | _, _ => False
/-- The rows that a builtin takes: their elements' size and the elements; the blocks that are looked at. -/
def rowK (h : Hp) (x : SV) (k : Nat → List (List SV) → List Nat → Prop) : Prop :=
  match x with
  | .rs z es => k z es []
  | .sl b => nthK h b fun blk => match blk with
    | .row _ z es => k z es [b]
    | _ => False
  | _ => False

noncomputable def opK (T : Tab) (F : Fr) (h : Hp) (nid : Nat) (op : Op) (K : Kop) : Prop :=
  match op with
  | .move x => evK F x fun s => K s [] []
  | .assign x => evK F x fun s => K s [] []
  | .pick c a b => evK F c fun c => match c with
    | .tt => evK F a fun s => K s [] []
    | .ff => evK F b fun s => K s [] []
    | .bool x => evK F a fun a => asB a fun a => evK F b fun b => asB b fun b => K (.bool (cond x a b)) [] []
    | _ => False
  | .alloc t => tyK T t fun te => zeroK te.zero fun z => K (.ptr nid 0) [(nid, .fix t z)] [nid]
  | .box t x => evK F x fun s => cellsK s fun c => K (.ptr nid 0) [(nid, .fix t c)] [nid]
  | .binOp op t x y _ => evK F x fun x => evK F y fun y => binK T op t x y fun s => K s [] []
  | .unOp op _ x => evK F x fun x => unK op x fun s => K s [] []
  | .convert a d x => tyK T a fun ta => tyK T d fun te => evK F x fun x => match ta.ti, te.ti, x with
    | .none, _, _ => False
    | _, .int k, .int _ n => K (.int k (k.wrap n)) [] []
    | .str, .slice e, .str s => isByteK T e (s.length ≤ 4611686018427387903 ∧ K (.sl nid) [(nid, .row e 1 (s.map byteCell))] [nid])
    | .slice e, .str, .nils => isByteK T e (K (.str []) [] [])
    | .slice e, .str, .rs z es => isByteK T e (eqNK z 1 (StrG es fun s => K (.str s) [] []))
    | .slice e, .str, .sl b => isByteK T e (nthK h b fun blk => match blk with
      | .row _ z es => eqNK z 1 (StrG es fun s => K (.str s) [] [b])
      | _ => False)
    | _, _, _ => False
  | .extract x i => evK F x fun x => match x with
    | .tup vs => nthK vs i fun s => K s [] []
    | _ => False
  | .build t ps => tyK T t fun te => match te.ti with
    | .struct fs => zeroK te.zero fun z => buildK F fs ps.toList z fun cs => K (.agg cs) [] []
    | _ => False
  | .buildSlice t n ps => tyK T t fun te => match te.ti with
    | .slice e => tyK T e fun ee => zeroK ee.zero fun z => leNK (n * ee.size) 16777216 (leNK 1 ee.size (repK n z fun es => elemsK F ee.size ps.toList es fun es => K (.sl nid) [(nid, .row e ee.size es)] [nid]))
    | _ => False
  | .load t x => evK F x fun x => match x with
    | .ptr b off => nthK h b fun blk => match blk with
      | .fix _ cs => readK T cs off t fun s => K s [] [b]
      | _ => False
    | .ep b i f => nthK h b fun blk => match blk with
      | .row _ _ es => ElG es i fun e => readK T e f t fun s => K s [] [b]
      | _ => False
    | .rp _ es i f => ElG es i fun e => readK T e f t fun s => K s [] []
    | _ => False
  | .store t x v => evK F x fun x => evK F v fun v => cellsK v fun c => isAggK T t fun n _ => eqNK c.length n (match x with
    | .ptr b off => nthK h b fun blk => match blk with
      | .fix t cs => putK cs off c fun cs' => K .undef [(b, .fix t cs')] [b]
      | _ => False
    | .ep b i f => nthK h b fun blk => match blk with
      | .row t z es => puresK c (ElG es i fun e => putK e f c fun e' => K .undef [(b, .row t z (es.set i e'))] [b])
      | _ => False
    | _ => False)
  | .fieldAddr t x f => tyK T t fun te => evK F x fun x => match te.ti, x with
    | .struct fs, .ptr b off => nthK fs f fun p => neK p.2.2 (K (.ptr b (off + p.1)) [] [])
    | .struct fs, .ep b i o => nthK fs f fun p => neK p.2.2 (K (.ep b i (o + p.1)) [] [])
    | .struct fs, .rp z es i o => nthK fs f fun p => neK p.2.2 (K (.rp z es i (o + p.1)) [] [])
    | _, _ => False
  | .indexAddr t x i => tyK T t fun te => evK F x fun x => evK F i fun i => match te.ti, x, i with
    | .slice e, .rs z es, .int _ n => isAggK T e fun q _ => match Nat.beq q z with
      | true => (0 ≤ n ∧ n < (es.length : Int)) ∧ K (.rp z es n.toNat 0) [] []
      | false => False
    | .slice e, .sl b, .int _ n => nthK h b fun blk => match blk with
      | .row _ z es => isAggK T e fun q _ => match Nat.beq q z with
        | true => (0 ≤ n ∧ n < (es.length : Int)) ∧ K (.ep b n.toNat 0) [] [b]
        | false => False
      | _ => False
    | .array len e, .ptr b off, .int _ n => isAggK T e fun q _ => (0 ≤ n ∧ n < (len : Int)) ∧ AtG n fun m => K (.ptr b (off + m * q)) [] []
    | _, _, _ => False
  | .nilCheck x => evK F x fun x => match x with
    | .ptr b o => K (.ptr b o) [] []
    | .ep b i f => K (.ep b i f) [] []
    | .rp z es i f => K (.rp z es i f) [] []
    | _ => False
  | .slice t x lo hi mx => tyK T t fun te => evK F x fun x => match mx with
    | some _ => False
    | none => boundK F lo 0 fun l => match te.ti, x with
      | .str, .str s => boundK F hi s.length fun u => (0 ≤ l ∧ l ≤ u ∧ u ≤ (s.length : Int)) ∧ K (.str ((s.take u.toNat).drop l.toNat)) [] []
      | .slice e, .rs z es => isAggK T e fun q _ => match Nat.beq q z with
        | true => boundK F hi es.length fun u => (0 ≤ l ∧ l ≤ u ∧ u ≤ (es.length : Int)) ∧ K (.rs z ((es.take u.toNat).drop l.toNat)) [] []
        | false => False
      | _, _ => False
  | .index t x i => tyK T t fun te => evK F x fun x => evK F i fun i => match te.ti, x, i with
    | .str, .str s, .int _ n => (0 ≤ n ∧ n < (s.length : Int)) ∧ K (.int .u8 ((s.getD n.toNat 0).toNat : Int)) [] []
    | _, _, _ => False
  | .field t x f => tyK T t fun te => evK F x fun x => match te.ti, x with
    | .struct fs, .agg cs => nthK fs f fun p => partK T cs p.1 p.2.1 fun s => K s [] []
    | _, _ => False
  | .makeFunc fn first caps => match fn, first.toList with
    | .func f, [] => evsK F caps.toList fun l => K (.fn f l) [] []
    | _, _ => False
  | .makeSlice t n c => tyK T t fun te => match te.ti with
    | .slice e => tyK T e fun ee => zeroK ee.zero fun z => evK F n fun n => evK F c fun c => match n, c with
      | .int _ n, .int _ c => (c = n ∧ 0 ≤ n ∧ n * ee.bytes ≤ 281474976710656 ∧ n ≤ 9223372036854775807 ∧ 0 < ee.size) ∧ K (.sl nid) [(nid, .row e ee.size (List.replicate n.toNat z))] [nid]
      | _, _ => False
    | _ => False
  | .call c => match c.callee with
    | .builtin .len => evsK F c.args.toList fun l => match c.argTypes.toList with
      | [t] => tyK T t fun te => match te.ti, l with
        | .str, [.str s] => K (.int .i64 (s.length : Int)) [] []
        | .slice _, [.nils] => K (.int .i64 0) [] []
        | .slice _, [.rs _ es] => K (.int .i64 (es.length : Int)) [] []
        | .slice _, [.sl b] => nthK h b fun blk => match blk with
          | .row _ _ es => K (.int .i64 (es.length : Int)) [] [b]
          | _ => False
        | _, _ => False
      | _ => False
    | .builtin .min => evsK F c.args.toList fun l => match l with
      | [.int k x, .int _ y] => K (.int k (if y < x then y else x)) [] []
      | [.int k x, .int _ y, .int _ z] => K (.int k (if z < (if y < x then y else x) then z else (if y < x then y else x))) [] []
      | _ => False
    | .builtin .max => evsK F c.args.toList fun l => match l with
      | [.int k x, .int _ y] => K (.int k (if y > x then y else x)) [] []
      | [.int k x, .int _ y, .int _ z] => K (.int k (if z > (if y > x then y else x) then z else (if y > x then y else x))) [] []
      | _ => False
    | .builtin .append => evsK F c.args.toList fun l => match c.argTypes.toList with
      | [t, u] => tyK T t fun te => match te.ti with
        | .slice e => tyK T e fun ee => zeroK ee.zero fun _ => leNK 1 ee.size (match l with
          | [s, x] => dstK h e ee.size s fun es kill rd => srcK T h u e ee.size x fun xs rd' =>
            (es.length + xs.length ≤ 4611686018427387903 ∧ (es.length + xs.length) * ee.bytes ≤ 140737488355328) ∧ K (.sl nid) ((nid, .row e ee.size (es ++ xs)) :: kill) (nid :: (rd ++ rd'))
          | _ => False)
        | _ => False
      | _ => False
    | _ => False
  | _ => False
where
  boundK (F : Fr) (x : Option Operand) (d : Nat) (k : Int → Prop) : Prop :=
    match x with
    | none => k (d : Int)
    | some x => evK F x fun s => match s with
      | .int _ n => k n
      | _ => False

noncomputable def updK (ws : Ws) : Hp → (Hp → Prop) → Prop :=
  List.rec (motive := fun _ => Hp → (Hp → Prop) → Prop) (fun h k => k h) (fun p _ ih h k => setK h p.1 p.2 fun h' => ih h' k) ws
def upd (ws : Ws) (h : Hp) : Hp := ws.foldl (fun h p => h.set p.1 p.2) h

noncomputable def slB (T : Tab) (t : TypeId) : Bool :=
  List.rec (motive := fun _ => Nat → Bool) (fun _ => false) (fun te _ ih n => Nat.rec (motive := fun _ => Bool) (match te.ti with | .slice _ => true | _ => false) (fun m _ => ih m) n) T t
noncomputable def allocs (T : Tab) (op : Op) : Bool :=
  match op with
  | .alloc _ => true
  | .box _ _ => true
  | .buildSlice .. => true
  | .makeSlice .. => true
  | .convert _ d _ => slB T d
  | .call c => match c.callee with | .builtin .append => true | _ => false
  | _ => false

/-! ### what a call, a loop comes to: in the memory's own words -/
/-- A piece of the model's work, done, with what is then known. -/
def DoneS (P : Program) (m : Sem Next) (w : World) (R : Value → World → Prop) : Prop :=
  match m.run P w with
  | .ok (.value v) w' => R v w'
  | .ok .skip w' => R Go.undef w'
  | .ok (.enter f args) w' => Calls P f args w' fun e w'' => ∃ v, e = .returned v ∧ R v w''
  | _ => False

def RepL (w : World) (E : Nat → Prop) (σ : Sg) (ss : List SV) (vs : List Value) : Prop :=
  ss.length = vs.length ∧ ∀ (i : Nat) (s : SV) (v : Value), ss[i]? = some s → vs[i]? = some v → Rep w E σ s v

/-- A call of function f at these arguments, from heap h on, hands back s and leaves h', of which K holds. -/
structure CallG (P : Program) (f : FuncId) (args : List SV) (h : Hp) (K : SV → Hp → Prop) : Prop where
  ok : ∀ (w : World) (X : Nat → Prop) (σ : Sg) (vs : List Value), Inv w X σ h → RepL w (Ex X σ) σ args vs →
    DoneS P (callFunc f vs.toArray) w fun v w' => ∃ s h' σ', K s h' ∧ Rep w' (Ex X σ') σ' s v ∧ Inv w' X σ' h' ∧ Step σ.length w σ w' σ'

inductive SX where
  | normal | exit (id : Nat) | ret
abbrev Post := SX → Fr → Hp → Prop
def SX.of : Exit → Option SX
  | .normal => some .normal
  | .exit id => some (.exit id)
  | .ret => some .ret
  | _ => none

def SPost (m : Nat) (X : Nat → Prop) (w0 : World) (σ0 : Sg) (K : Post) (e : Exit) (a : Act) (w : World) : Prop :=
  a.defers = [] ∧ ∃ x F h σ, SX.of e = some x ∧ K x F h ∧ Inv w X σ h ∧ FRep w (Ex X σ) σ F a.tmps ∧ Step m w0 σ0 w σ

/-- A piece of code, from frame F and heap h on, comes to K. -/
def SOK (P : Program) (m : Nat) (c : Code) (F : Fr) (h : Hp) (K : Post) : Prop :=
  ∀ (w : World) (X : Nat → Prop) (σ : Sg) (tmps : Array Value), Inv w X σ h → FRep w (Ex X σ) σ F tmps → c.wp P (SPost m X w σ K) ⟨tmps, []⟩ w

structure LoopG (P : Program) (m : Nat) (c : Code) (F : Fr) (h : Hp) (K : Post) : Prop where
  ok : SOK P m (.loop c) F h K
structure DrawG (P : Program) (m : Nat) (id : Nat) (ops : Array Oper) (F : Fr) (h : Hp) (K : Fr → Hp → Prop) : Prop where
  ok : SOK P m (.region id ops true) F h fun x F h => x = .normal ∧ K F h

/-! ### the executor -/
noncomputable def oneK (P : Program) (T : Tab) (F : Fr) (h : Hp) (op : Op) (K : SV → Hp → Prop) : Prop :=
  match op with
  | .call { callee := .value x, args := xs, .. } => evK F x fun x => match x with
    | .fn f cs => evsK F xs.toList fun l => appK l cs fun l => CallG P f l h K
    | _ => False
  | op => match allocs T op with
    | true => idK h supply fun n => appK h [.fresh] fun h' => opK T F h' n op fun s ws _ => updK ws h' fun h'' => K s h''
    | false => opK T F h 0 op fun s ws _ => updK ws h fun h'' => K s h''

noncomputable def putD (F : Fr) (d : Option Tmp) (s : SV) (K : Fr → Prop) : Prop :=
  match d with
  | none => K F
  | some d => setK F d s K

def dstOf (ops : List Oper) (j : Nat) : Option Tmp := (ops[j]?).bind (·.dst)

noncomputable def guardK (ops : List Oper) (F : Fr) (g : Option (Nat × Bool)) (yes no : Fr → Prop) : Prop :=
  match g with
  | none => yes F
  | some (j, want) => match dstOf ops j with
    | none => False
    | some d => nthK F d fun s => match s, want with
      | .tt, true => yes F
      | .tt, false => no F
      | .ff, true => no F
      | .ff, false => yes F
      | .undef, _ => no F
      | .bool b, true => (b = true → setK F d .tt yes) ∧ (b = false → setK F d .ff no)
      | .bool b, false => (b = true → setK F d .tt no) ∧ (b = false → setK F d .ff yes)
      | _, _ => False

noncomputable def opsK (P : Program) (T : Tab) (all : List Oper) (l : List Oper) : Fr → Hp → (Fr → Hp → Prop) → Prop :=
  List.rec (motive := fun _ => Fr → Hp → (Fr → Hp → Prop) → Prop) (fun F h K => K F h)
    (fun o _ ih F h K => guardK all F o.guard
      (fun F => oneK P T F h o.op fun s h' => putD F o.dst s fun F' => ih F' h' K)
      (fun F => putD F o.dst .undef fun F' => ih F' h K)) l

noncomputable def codeK (P : Program) (T : Tab) (m : Nat) (c : Code) : Fr → Hp → Post → Prop :=
  Code.rec (motive := fun _ => Fr → Hp → Post → Prop)
    (fun F h K => K .normal F h)
    (fun id ops draw F h K => match draw with
      | false => opsK P T ops.toList ops.toList F h (K .normal)
      | true => DrawG P m id ops F h (K .normal))
    (fun _ _ iha ihb F h K => iha F h fun x F h => match x with
      | .normal => ihb F h K
      | .exit i => K (.exit i) F h
      | .ret => K .ret F h)
    (fun c _ _ iha ihb F h K => evK F c fun s => match s with
      | .tt => iha F h K
      | .ff => ihb F h K
      | .qb p => (p → iha F h K) ∧ ihb F h K
      | .bool x => match c with
        | .tmp d => (x = true → setK F d .tt fun F => iha F h K) ∧ (x = false → setK F d .ff fun F => ihb F h K)
        | _ => False
      | _ => False)
    (fun id _ ih F h K => ih F h fun x F h => match x with
      | .normal => K .normal F h
      | .exit i => match Nat.beq i id with
        | true => K .normal F h
        | false => K (.exit i) F h
      | .ret => K .ret F h)
    (fun c _ F h K => LoopG P m c F h K)
    (fun _ _ _ _ _ _ _ _ _ => False)
    (fun id F h K => K (.exit id) F h)
    (fun _ ih F h K => ih F h K)
    (fun _ F h K => K .normal F h)
    (fun _ _ _ _ => False)
    (fun F h K => K .ret F h)
    (fun _ _ _ _ => False) c

noncomputable def resK (h : Hp) (F : Fr) (T : Tab) (l : List ResultVar) : (List SV → Prop) → Prop :=
  List.rec (motive := fun _ => (List SV → Prop) → Prop) (fun k => k [])
    (fun r _ ih k => match r with
      | .tmp t => nthK F t fun s => ih fun r => k (s :: r)
      | .cell a t => nthK F a fun s => match s with
        | .ptr b off => nthK h b fun blk => match blk with
          | .fix _ cs => readK T cs off t fun s => ih fun r => k (s :: r)
          | _ => False
        | _ => False) l
def tupK (l : List SV) (k : SV → Prop) : Prop :=
  match l with
  | [s] => k s
  | [] => k (.tup [])
  | s :: s' :: l => k (.tup (s :: s' :: l))
noncomputable def retK (T : Tab) (fn : Func) (R : SV → Hp → Prop) : Post := fun x F h => match x with
  | .normal => resK h F T fn.results.toList fun l => tupK l fun s => R s h
  | .ret => resK h F T fn.results.toList fun l => tupK l fun s => R s h
  | .exit _ => False

noncomputable def startK (args : List SV) (n : Nat) (k : Fr → Prop) : Prop := repK n SV.undef fun r => dropK args.length r fun r => appK args r k

end Go.Sx
