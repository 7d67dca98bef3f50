/- Part of the executor and its soundness, or of what it is told of this seat's program. No statement of the seat is proved here. -/
import Derived.WalkKit
import Derived.Deep.LoopGhost
import Derived.Maps.AppendAt
import Derived.Lib.SliceRun
import Derived.Great.FillDense
import Derived.Great.BuildSlice
import Derived.Lib.Strings
import Derived.Laws.IdiomStrings
import Derived.Laws.Cover1
import Derived.Scope
import Derived.Below
set_option linter.unusedSimpArgs false
set_option linter.unusedVariables false
namespace Go.Sx
inductive SV where
 | bot | any | undef
 | int (k : IntKind) (n : Int)
 | tt | ff | bool (b : Bool) | qb (p : Prop)
 | str (s : List UInt8)
 | agg (cs : List SV)
 | tup (vs : List SV)
 | nilp
 | ptr (b off : Nat)
 | ep (b i f : Nat)
 | nils
 | sl (b : Nat)
 | rs (sz : Nat) (es : List (List SV))
 | rp (sz : Nat) (es : List (List SV)) (i f : Nat)
 | fn (f : FuncId) (caps : List SV)
 | ln (n : Nat)
 | mp (b : Nat)
 | nilm
 | ifc (T : TypeId) (s : SV)
 | nili
 | ss (b lo n : Nat)
 | it (b : Nat)
 | z0
 | mfn (f : FuncId) (first : List SV)
 | iv (k : IntKind) (x lo hi m r : Int)
 | tl (b m : Nat)
 | tp (b m i f : Nat)
 | bs (k : IntKind) (N c lo hi : Int)
 | gp (b : Nat) (N : Int) (j f : Nat)
 deriving Inhabited
inductive Blk where
 | fresh | dead
 | fix (T : TypeId) (cs : List SV)
 | row (T : TypeId) (sz : Nat) (es : List (List SV))
 | prow (T : TypeId) (sz : Nat) (es : List (List SV))
 | mapB (es : List (SV × SV × Nat)) (clock : Nat)
 | pmap (es : List (SV × SV × Nat)) (clock : Nat)
 | mit (m : Option Nat) (since : Nat) (seen : List Nat) (stepped : Nat)
 | sit (s : List UInt8) (pos : Nat)
 | glob (g : Nat) (T : TypeId) (cs : List SV)
 | tail (T : TypeId) (sz : Nat) (es : List (List SV))
 | gap (T : TypeId) (sz : Nat) (N lo hi : Int) (pre es post : List (List SV))
 | gmap (pre es : List (SV × SV))
 deriving Inhabited
abbrev Fr := List SV
abbrev Hp := List Blk
/-- Where a block of the symbolic heap lies. -/
inductive Ent where
 | fresh | dead
 | fix (g : Nat)
 | row (g sz n cap : Nat)
 | rownil
 | obj (g : Nat)
 deriving Inhabited
def Ent.blk : Ent -> Option Nat
 | .fix g => some g
 | .row g _ _ _ => some g
 | .obj g => some g
 | _ => none
abbrev Sg := List Ent
def Owned (σ : Sg) (g : Nat) : Prop := ∃ (i : Nat) (e : Ent), σ[i]? = some e /\ e.blk = some g
def Ex (X : Nat -> Prop) (σ : Sg) (g : Nat) : Prop := X g ∨ Owned σ g
inductive Rep (w : World) (E : Nat -> Prop) : Sg -> SV -> Value -> Prop where
 | any {σ : Sg} {v : Value} : Rep w E σ .any v
 | undef {σ : Sg} : Rep w E σ .undef Go.undef
 | int {σ : Sg} {k : IntKind} {n : Int} : Rep w E σ (.int k n) (.int k n)
 | tt {σ : Sg} : Rep w E σ .tt (.bool true)
 | ff {σ : Sg} : Rep w E σ .ff (.bool false)
 | bool {σ : Sg} {b : Bool} : Rep w E σ (.bool b) (.bool b)
 | qb {σ : Sg} {p : Prop} {b : Bool} (h : b = true -> p) : Rep w E σ (.qb p) (.bool b)
 | str {σ : Sg} {s : List UInt8} : Rep w E σ (.str s) (.string ⟨s.toArray⟩)
 | agg {σ : Sg} {cs : List SV} {vs : Array Value} (hl : cs.length = vs.size) (h1 : ∀ (i : Nat) (v : Value), vs[i]? = some v -> v.oneCell' = true)
   (h : ∀ (i : Nat) (s : SV) (v : Value), cs[i]? = some s -> vs[i]? = some v -> Rep w E σ s v) : Rep w E σ (.agg cs) (.agg vs)
 | tup {σ : Sg} {cs : List SV} {vs : Array Value} (hl : cs.length = vs.size)
   (h : ∀ (i : Nat) (s : SV) (v : Value), cs[i]? = some s -> vs[i]? = some v -> Rep w E σ s v) : Rep w E σ (.tup cs) (.tuple vs)
 | nilp {σ : Sg} : Rep w E σ .nilp (.pointer none)
 | nils {σ : Sg} : Rep w E σ .nils (.slice none 0 0)
 | ptr {σ : Sg} {b g off : Nat} (h : σ[b]? = some (.fix g)) : Rep w E σ (.ptr b off) (.pointer (some ⟨g, off, none⟩))
 | ptrD {σ : Sg} {b off g : Nat} (h : σ[b]? = some .dead) : Rep w E σ (.ptr b off) (.pointer (some ⟨g, off, none⟩))
 | ep {σ : Sg} {b g sz n cap i f : Nat} (h : σ[b]? = some (.row g sz n cap)) : Rep w E σ (.ep b i f) (.pointer (some ⟨g, i * sz + f, none⟩))
 | epD {σ : Sg} {b i f g o : Nat} (h : σ[b]? = some .dead) : Rep w E σ (.ep b i f) (.pointer (some ⟨g, o, none⟩))
 | sl {σ : Sg} {b g sz n cap : Nat} (h : σ[b]? = some (.row g sz n cap)) : Rep w E σ (.sl b) (.slice (some ⟨g, 0, none⟩) n cap)
 | slN {σ : Sg} {b : Nat} (h : σ[b]? = some .rownil) : Rep w E σ (.sl b) (.slice none 0 0)
 | slD {σ : Sg} {b n c : Nat} {a : Option Addr} (h : σ[b]? = some .dead) : Rep w E σ (.sl b) (.slice a n c)
 | rs0 {σ : Sg} {sz : Nat} {a : Option Addr} {c : Nat} (hc : c <= maxLen) : Rep w E σ (.rs sz []) (.slice a 0 c)
 | rs {σ : Sg} {sz : Nat} {es : List (List SV)} {ad : Addr} {c : Nat} {val : Nat -> Nat -> Value} (hc : es.length <= c) (hm : c <= maxLen) (hE : ¬ E ad.block) (hlt : ad.block < w.heap.size)
   (hlen : ∀ (i : Nat) (e : List SV), es[i]? = some e -> e.length = sz)
   (hcell : ∀ (i : Nat) (e : List SV) (j : Nat) (s : SV), es[i]? = some e -> e[j]? = some s -> w.cell? (ad.add (i * sz + j)) = some (val i j))
   (hone : ∀ (i : Nat) (e : List SV) (j : Nat) (s : SV), es[i]? = some e -> e[j]? = some s -> (val i j).oneCell' = true)
   (hrep : ∀ (i : Nat) (e : List SV) (j : Nat) (s : SV), es[i]? = some e -> e[j]? = some s -> Rep w E [] s (val i j)) : Rep w E σ (.rs sz es) (.slice (some ad) es.length c)
 | rp {σ : Sg} {sz : Nat} {es : List (List SV)} {ad : Addr} {i f : Nat} {val : Nat -> Nat -> Value} (hE : ¬ E ad.block) (hlt : ad.block < w.heap.size)
   (hlen : ∀ (i : Nat) (e : List SV), es[i]? = some e -> e.length = sz)
   (hcell : ∀ (i : Nat) (e : List SV) (j : Nat) (s : SV), es[i]? = some e -> e[j]? = some s -> w.cell? (ad.add (i * sz + j)) = some (val i j))
   (hone : ∀ (i : Nat) (e : List SV) (j : Nat) (s : SV), es[i]? = some e -> e[j]? = some s -> (val i j).oneCell' = true)
   (hrep : ∀ (i : Nat) (e : List SV) (j : Nat) (s : SV), es[i]? = some e -> e[j]? = some s -> Rep w E [] s (val i j)) : Rep w E σ (.rp sz es i f) (.pointer (some (ad.add (i * sz + f))))
 | fn {σ : Sg} {f : FuncId} {cs : List SV} {vs : Array Value} (hl : cs.length = vs.size)
   (h : ∀ (i : Nat) (s : SV) (v : Value), cs[i]? = some s -> vs[i]? = some v -> Rep w E σ s v) : Rep w E σ (.fn f cs) (.func (.func f) #[] vs)
 | ln {σ : Sg} {a : Option Addr} {n c : Nat} : Rep w E σ (.ln n) (.slice a n c)
 | mp {σ : Sg} {b g : Nat} (h : σ[b]? = some (.obj g)) : Rep w E σ (.mp b) (.map (some g))
 | mpD {σ : Sg} {b : Nat} {r : Option Nat} (h : σ[b]? = some .dead) : Rep w E σ (.mp b) (.map r)
 | nilm {σ : Sg} : Rep w E σ .nilm (.map none)
 | ifc {σ : Sg} {T : TypeId} {s : SV} {v : Value} (h : Rep w E σ s v) : Rep w E σ (.ifc T s) (.iface T v)
 | nili {σ : Sg} : Rep w E σ .nili .nilIface
 | ss {σ : Sg} {b g sz n cap lo m o : Nat} (h : σ[b]? = some (.row g sz n cap)) (hl : lo + m <= n) (ho : lo < cap -> o = lo * sz) : Rep w E σ (.ss b lo m) (.slice (some ⟨g, o, none⟩) m (cap - lo))
 | ssN {σ : Sg} {b : Nat} (h : σ[b]? = some .rownil) : Rep w E σ (.ss b 0 0) (.slice none 0 0)
 | ssD {σ : Sg} {b lo m n c : Nat} {a : Option Addr} (h : σ[b]? = some .dead) : Rep w E σ (.ss b lo m) (.slice a n c)
 | it {σ : Sg} {b g : Nat} (h : σ[b]? = some (.obj g)) : Rep w E σ (.it b) (.pointer (some ⟨g, 0, none⟩))
 | itD {σ : Sg} {b : Nat} {a : Option Addr} (h : σ[b]? = some .dead) : Rep w E σ (.it b) (.pointer a)
 | z0 {σ : Sg} {a : Option Addr} : Rep w E σ .z0 (.slice a 0 0)
 | mfn {σ : Sg} {f : FuncId} {cs : List SV} {vs : Array Value} (hl : cs.length = vs.size)
   (h : ∀ (i : Nat) (s : SV) (v : Value), cs[i]? = some s -> vs[i]? = some v -> Rep w E σ s v) : Rep w E σ (.mfn f cs) (.func (.func f) vs #[])
 | iv {σ : Sg} {k : IntKind} {x lo hi m r : Int} (h1 : lo <= x) (h2 : x <= hi) (h3 : x % m = r) : Rep w E σ (.iv k x lo hi m r) (.int k x)
 | tl {σ : Sg} {b g sz n cap m o : Nat} (h : σ[b]? = some (.row g sz n cap)) (hm : m <= n) (ho : o = (n - m) * sz) : Rep w E σ (.tl b m) (.slice (some ⟨g, o, none⟩) m (cap - (n - m)))
 | tlD {σ : Sg} {b m n c : Nat} {a : Option Addr} (h : σ[b]? = some .dead) : Rep w E σ (.tl b m) (.slice a n c)
 | tp {σ : Sg} {b g sz n cap m i f : Nat} (h : σ[b]? = some (.row g sz n cap)) : Rep w E σ (.tp b m i f) (.pointer (some ⟨g, (n - m + i) * sz + f, none⟩))
 | tpD {σ : Sg} {b m i f : Nat} {a : Option Addr} (h : σ[b]? = some .dead) : Rep w E σ (.tp b m i f) (.pointer a)
 | bs {σ : Sg} {k : IntKind} {N c lo hi : Int} (h1 : lo <= N + c) (h2 : N + c <= hi) : Rep w E σ (.bs k N c lo hi) (.int k (N + c))
 | gp {σ : Sg} {b g sz n cap j f : Nat} {N : Int} (h : σ[b]? = some (.row g sz n cap)) : Rep w E σ (.gp b N j f) (.pointer (some ⟨g, (N.toNat + j) * sz + f, none⟩))
 | gpD {σ : Sg} {b j f g o : Nat} {N : Int} (h : σ[b]? = some .dead) : Rep w E σ (.gp b N j f) (.pointer (some ⟨g, o, none⟩))
theorem add_block (a : Addr) (n : Nat) : (a.add n).block = a.block := by unfold Addr.add; split <;> rfl
theorem add_add (a : Addr) (i j : Nat) : (a.add i).add j = a.add (i + j) := by
 unfold Addr.add
 by_cases hi : i = 0 <;> by_cases hj : j = 0 <;> simp [hi, hj, Nat.add_assoc]
theorem Rep.mono {w w' : World} {E E' : Nat -> Prop} {σ : Sg} {s : SV} {v : Value} (h : Rep w E σ s v) :
  ∀ σ' : Sg, (∀ g, g < w.heap.size -> ¬ E g -> w'.heap[g]? = w.heap[g]?) -> w.heap.size <= w'.heap.size -> (∀ g, g < w.heap.size -> ¬ E g -> ¬ E' g) ->
  (∀ (i : Nat) (e : Ent), σ[i]? = some e -> e ≠ .fresh -> σ'[i]? = some e ∨ σ'[i]? = some .dead) -> Rep w' E' σ' s v := by
 induction h with
 | any => intros; exact .any
 | undef => intros; exact .undef
 | int => intros; exact .int
 | tt => intros; exact .tt
 | ff => intros; exact .ff
 | bool => intros; exact .bool
 | qb h => intros; exact .qb h
 | str => intros; exact .str
 | agg hl h1 h ih => intro σ' hw hs hE hσ; exact .agg hl h1 fun i s v hs' hv => ih i s v hs' hv σ' hw hs hE hσ
 | tup hl h ih => intro σ' hw hs hE hσ; exact .tup hl fun i s v hs' hv => ih i s v hs' hv σ' hw hs hE hσ
 | nilp => intros; exact .nilp
 | nils => intros; exact .nils
 | ptr h => intro σ' _ _ _ hσ; exact (hσ _ _ h (by simp)).elim (fun h => .ptr h) (fun h => .ptrD h)
 | ptrD h => intro σ' _ _ _ hσ; exact (hσ _ _ h (by simp)).elim (fun h => .ptrD h) (fun h => .ptrD h)
 | ep h => intro σ' _ _ _ hσ; exact (hσ _ _ h (by simp)).elim (fun h => .ep h) (fun h => .epD h)
 | epD h => intro σ' _ _ _ hσ; exact (hσ _ _ h (by simp)).elim (fun h => .epD h) (fun h => .epD h)
 | sl h => intro σ' _ _ _ hσ; exact (hσ _ _ h (by simp)).elim (fun h => .sl h) (fun h => .slD h)
 | slN h => intro σ' _ _ _ hσ; exact (hσ _ _ h (by simp)).elim (fun h => .slN h) (fun h => .slD h)
 | slD h => intro σ' _ _ _ hσ; exact (hσ _ _ h (by simp)).elim (fun h => .slD h) (fun h => .slD h)
 | rs0 hc => intros; exact .rs0 hc
 | rs hc hm hE0 hlt hlen hcell hone hrep ih =>
  intro σ' hw hs hE hσ
  refine .rs hc hm (hE _ hlt hE0) (Nat.lt_of_lt_of_le hlt hs) hlen (fun i e j s he hs' => ?_) hone (fun i e j s he hs' => ih i e j s he hs' [] hw hs hE (by simp))
  rw [<- hcell i e j s he hs']
  refine World.cell?_of_block ?_
  rw [add_block]
  exact hw _ hlt hE0
 | rp hE0 hlt hlen hcell hone hrep ih =>
  intro σ' hw hs hE hσ
  refine .rp (hE _ hlt hE0) (Nat.lt_of_lt_of_le hlt hs) hlen (fun i e j s he hs' => ?_) hone (fun i e j s he hs' => ih i e j s he hs' [] hw hs hE (by simp))
  rw [<- hcell i e j s he hs']
  refine World.cell?_of_block ?_
  rw [add_block]
  exact hw _ hlt hE0
 | fn hl h ih => intro σ' hw hs hE hσ; exact .fn hl fun i s v hs' hv => ih i s v hs' hv σ' hw hs hE hσ
 | mfn hl h ih => intro σ' hw hs hE hσ; exact .mfn hl fun i s v hs' hv => ih i s v hs' hv σ' hw hs hE hσ
 | ln => intros; exact .ln
 | iv h1 h2 h3 => intros; exact .iv h1 h2 h3
 | tl h hm ho => intro σ' _ _ _ hσ; exact (hσ _ _ h (by simp)).elim (fun h => .tl h hm ho) (fun h => .tlD h)
 | tlD h => intro σ' _ _ _ hσ; exact (hσ _ _ h (by simp)).elim (fun h => .tlD h) (fun h => .tlD h)
 | tp h => intro σ' _ _ _ hσ; exact (hσ _ _ h (by simp)).elim (fun h => .tp h) (fun h => .tpD h)
 | tpD h => intro σ' _ _ _ hσ; exact (hσ _ _ h (by simp)).elim (fun h => .tpD h) (fun h => .tpD h)
 | bs h1 h2 => intros; exact .bs h1 h2
 | gp h => intro σ' _ _ _ hσ; exact (hσ _ _ h (by simp)).elim (fun h => .gp h) (fun h => .gpD h)
 | gpD h => intro σ' _ _ _ hσ; exact (hσ _ _ h (by simp)).elim (fun h => .gpD h) (fun h => .gpD h)
 | mp h => intro σ' _ _ _ hσ; exact (hσ _ _ h (by simp)).elim (fun h => .mp h) (fun h => .mpD h)
 | mpD h => intro σ' _ _ _ hσ; exact (hσ _ _ h (by simp)).elim (fun h => .mpD h) (fun h => .mpD h)
 | nilm => intros; exact .nilm
 | ifc h ih => intro σ' hw hs hE hσ; exact .ifc (ih σ' hw hs hE hσ)
 | nili => intros; exact .nili
 | z0 => intros; exact .z0
 | ss h hl ho => intro σ' _ _ _ hσ; exact (hσ _ _ h (by simp)).elim (fun h => .ss h hl ho) (fun h => .ssD h)
 | ssN h => intro σ' _ _ _ hσ; exact (hσ _ _ h (by simp)).elim (fun h => .ssN h) (fun h => .ssD h)
 | ssD h => intro σ' _ _ _ hσ; exact (hσ _ _ h (by simp)).elim (fun h => .ssD h) (fun h => .ssD h)
 | it h => intro σ' _ _ _ hσ; exact (hσ _ _ h (by simp)).elim (fun h => .it h) (fun h => .itD h)
 | itD h => intro σ' _ _ _ hσ; exact (hσ _ _ h (by simp)).elim (fun h => .itD h) (fun h => .itD h)
def RowAt (w : World) (g : Nat) (vs : Array Value) (T : TypeId) : Prop := ∃ fr : Nat × Nat, w.heap[g]? = some (.cells vs T fr) /\ (∀ k, k < vs.size -> ¬ (fr.1 <= k /\ k < fr.2)) /\ fr.1 <= fr.2
theorem RowAt.of {w : World} {g : Nat} {vs : Array Value} {T : TypeId} (h : w.heap[g]? = some (.cells vs T (0, 0))) : RowAt w g vs T := ⟨_, h, fun k _ h => absurd h.2 (Nat.not_lt_zero k), Nat.le_refl _⟩
theorem RowAt.same {w w' : World} {g : Nat} {vs : Array Value} {T : TypeId} (h : RowAt w g vs T) (hg : w'.heap[g]? = w.heap[g]?) : RowAt w' g vs T := by
 obtain ⟨fr, h1, h2⟩ := h
 exact ⟨fr, hg.trans h1, h2⟩
def BlkOK (w : World) (E : Nat -> Prop) (σ : Sg) : Blk -> Ent -> Prop
 | .fresh, .fresh => True
 | .dead, .dead => True
 | .fix T cs, .fix g => ∃ vs : Array Value, w.heap[g]? = some (.cells vs T (0, 0)) /\ cs.length = vs.size /\
   ∀ (i : Nat) (s : SV) (v : Value), cs[i]? = some s -> vs[i]? = some v -> Rep w E σ s v /\ v.oneCell' = true
 | .row T sz es, .row g sz' n cap => sz' = sz /\ n = es.length /\ n <= cap /\ cap <= maxLen /\ ∃ vs : Array Value, RowAt w g vs T /\ vs.size = cap * sz /\
   ∀ (i : Nat) (e : List SV), es[i]? = some e -> e.length = sz /\ ∀ (j : Nat) (s : SV), e[j]? = some s -> ∃ v, vs[i * sz + j]? = some v /\ Rep w E [] s v /\ v.oneCell' = true
 | .row _ _ es, .rownil => es = []
 | .prow T sz es, .row g sz' n cap => sz' = sz /\ n = es.length /\ n <= cap /\ cap <= maxLen /\ ∃ vs : Array Value, RowAt w g vs T /\ vs.size = cap * sz /\
   ∀ (i : Nat) (e : List SV), es[i]? = some e -> e.length = sz /\ ∀ (j : Nat) (s : SV), e[j]? = some s -> ∃ v, vs[i * sz + j]? = some v /\ Rep w E σ s v /\ v.oneCell' = true
 | .prow _ _ es, .rownil => es = []
 | .mapB es ck, .obj g => ∃ ms : Array MapEntry, w.heap[g]? = some (.map ms ck) /\ es.length = ms.size /\
   ∀ (i : Nat) (e : SV × SV × Nat) (m : MapEntry), es[i]? = some e -> ms[i]? = some m -> Rep w E [] e.1 m.key /\ Rep w E [] e.2.1 m.val /\ m.born = e.2.2
 | .pmap es ck, .obj g => ∃ ms : Array MapEntry, w.heap[g]? = some (.map ms ck) /\ es.length = ms.size /\
   ∀ (i : Nat) (e : SV × SV × Nat) (m : MapEntry), es[i]? = some e -> ms[i]? = some m -> Rep w E σ e.1 m.key /\ Rep w E σ e.2.1 m.val /\ m.born = e.2.2
 | .mit mb since seen st, .obj g => ∃ r : Option Nat, w.heap[g]? = some (.mapIter r since seen.toArray st) /\ (match mb with | none => r = none | some b => (∃ g', σ[b]? = some (.obj g') /\ r = some g') ∨ σ[b]? = some .dead)
 | .sit s pos, .obj g => w.heap[g]? = some (.stringIter ⟨s.toArray⟩ pos)
 | .glob g0 T cs, .fix g => g0 = g /\ ∃ vs : Array Value, w.heap[g]? = some (.cells vs T (0, 0)) /\ cs.length = vs.size /\
   ∀ (i : Nat) (s : SV) (v : Value), cs[i]? = some s -> vs[i]? = some v -> Rep w E [] s v /\ v.oneCell' = true
 | .tail T sz es, .row g sz' n cap => sz' = sz /\ es.length <= n /\ n <= cap /\ cap <= maxLen /\ ∃ vs : Array Value, RowAt w g vs T /\ vs.size = cap * sz /\
   ∀ (i : Nat) (e : List SV), es[i]? = some e -> e.length = sz /\ ∀ (j : Nat) (s : SV), e[j]? = some s -> ∃ v, vs[(n - es.length + i) * sz + j]? = some v /\ Rep w E σ s v /\ v.oneCell' = true
 | .gap T sz N lo hi pre es post, .row g sz' n cap => (lo <= N /\ N <= hi) /\ (pre.length : Int) = N /\ sz' = sz /\ n = (pre ++ (es ++ post)).length /\ n <= cap /\ cap <= maxLen /\ ∃ vs : Array Value, RowAt w g vs T /\ vs.size = cap * sz /\
   ∀ (i : Nat) (e : List SV), (pre ++ (es ++ post))[i]? = some e -> e.length = sz /\ ∀ (j : Nat) (s : SV), e[j]? = some s -> ∃ v, vs[i * sz + j]? = some v /\ Rep w E [] s v /\ v.oneCell' = true
 | .gap _ _ N lo hi pre es post, .rownil => (lo <= N /\ N <= hi) /\ (pre.length : Int) = N /\ pre ++ (es ++ post) = []
 | .gmap pre es, .obj g => ∃ (ms : Array MapEntry) (ck : Nat), w.heap[g]? = some (.map ms ck) /\ (pre ++ es).length = ms.size /\
   ∀ (i : Nat) (e : SV × SV) (m : MapEntry), (pre ++ es)[i]? = some e -> ms[i]? = some m -> Rep w E [] e.1 m.key /\ Rep w E [] e.2 m.val
 | _, _ => False
structure Inv (w : World) (X : Nat -> Prop) (σ : Sg) (h : Hp) : Prop where
 len : σ.length = h.length
 ok : ∀ (i : Nat) (b : Blk) (e : Ent), h[i]? = some b -> σ[i]? = some e -> BlkOK w (Ex X σ) σ b e
 lt : ∀ (i : Nat) (e : Ent) (g : Nat), σ[i]? = some e -> e.blk = some g -> g < w.heap.size
 inj : ∀ (i j : Nat) (e e' : Ent) (g : Nat), σ[i]? = some e -> σ[j]? = some e' -> e.blk = some g -> e'.blk = some g -> i = j
 dis : ∀ g, X g -> ¬ Owned σ g
 xlt : ∀ g, X g -> g < w.heap.size
/-- From (w, σ) to (w', σ'): what was not owned is as it was; the first m entries stay or die. -/
structure Step (m : Nat) (w : World) (σ : Sg) (w' : World) (σ' : Sg) : Prop where
 os : w'.os = w.os
 tape : w'.tape = w.tape
 output : w'.output = w.output
 size : w.heap.size <= w'.heap.size
 frame : ∀ g, g < w.heap.size -> ¬ Owned σ g -> w'.heap[g]? = w.heap[g]?
 blks : ∀ g, Owned σ' g -> g < w.heap.size -> Owned σ g
 ents : ∀ (i : Nat) (e : Ent), i < m -> σ[i]? = some e -> e ≠ .fresh -> σ'[i]? = some e ∨ σ'[i]? = some .dead
theorem Step.refl (m : Nat) (w : World) (σ : Sg) : Step m w σ w σ := ⟨rfl, rfl, rfl, Nat.le_refl _, fun _ _ _ => rfl, fun _ h _ => h, fun _ _ _ h _ => .inl h⟩
theorem Step.trans {m : Nat} {w w' w'' : World} {σ σ' σ'' : Sg} (h : Step m w σ w' σ') (k : Step m w' σ' w'' σ'') : Step m w σ w'' σ'' where
 os := k.os.trans h.os
 tape := k.tape.trans h.tape
 output := k.output.trans h.output
 size := Nat.le_trans h.size k.size
 frame g hg ho := (k.frame g (Nat.lt_of_lt_of_le hg h.size) fun h' => ho (h.blks g h' hg)).trans (h.frame g hg ho)
 blks g ho hg := h.blks g (k.blks g ho (Nat.lt_of_lt_of_le hg h.size)) hg
 ents i e hi he hf := by
  rcases h.ents i e hi he hf with h1 | h1
  ·exact k.ents i e hi h1 hf
  ·rcases k.ents i _ hi h1 (by simp) with h2 | h2 <;> exact .inr h2
theorem Step.le {m m' : Nat} {w w' : World} {σ σ' : Sg} (h : Step m w σ w' σ') (hm : m' <= m) : Step m' w σ w' σ' :=
 ⟨h.os, h.tape, h.output, h.size, h.frame, h.blks, fun i e hi => h.ents i e (Nat.lt_of_lt_of_le hi hm)⟩
theorem Step.ex {m : Nat} {w w' : World} {X : Nat -> Prop} {σ σ' : Sg} (h : Step m w σ w' σ') (g : Nat) (hg : g < w.heap.size) (hE : ¬ Ex X σ g) : ¬ Ex X σ' g := by
 rintro (hx | ho)
 ·exact hE (.inl hx)
 ·exact hE (.inr (h.blks g ho hg))
theorem Rep.step {m : Nat} {w w' : World} {X : Nat -> Prop} {σ σ' : Sg} {s : SV} {v : Value} (h : Rep w (Ex X σ) σ s v) (k : Step m w σ w' σ') (hm : σ.length <= m) : Rep w' (Ex X σ') σ' s v :=
 h.mono σ' (fun g hg hE => k.frame g hg fun ho => hE (.inr ho)) k.size (fun g hg hE => k.ex g hg hE)
  fun i e he hf => k.ents i e (by have := (List.getElem?_eq_some_iff.1 he).1; omega) he hf
theorem Rep.step0 {m : Nat} {w w' : World} {X : Nat -> Prop} {σ σ' : Sg} {s : SV} {v : Value} (h : Rep w (Ex X σ) [] s v) (k : Step m w σ w' σ') : Rep w' (Ex X σ') [] s v :=
 h.mono [] (fun g hg hE => k.frame g hg fun ho => hE (.inr ho)) k.size (fun g hg hE => k.ex g hg hE) (by simp)
def FRep (w : World) (E : Nat -> Prop) (σ : Sg) (F : Fr) (a : Array Value) : Prop :=
 F.length = a.size /\ ∀ (i : Nat) (s : SV) (v : Value), F[i]? = some s -> a[i]? = some v -> Rep w E σ s v
theorem FRep.step {m : Nat} {w w' : World} {X : Nat -> Prop} {σ σ' : Sg} {F : Fr} {a : Array Value} (h : FRep w (Ex X σ) σ F a) (k : Step m w σ w' σ') (hm : σ.length <= m) : FRep w' (Ex X σ') σ' F a :=
 ⟨h.1, fun i s v hs hv => (h.2 i s v hs hv).step k hm⟩
theorem BlkOK.step {m : Nat} {w w' : World} {X : Nat -> Prop} {σ σ' : Sg} {b : Blk} {e : Ent} (h : BlkOK w (Ex X σ) σ b e) (k : Step m w σ w' σ') (hm : σ.length <= m)
  (hg : ∀ g, e.blk = some g -> w'.heap[g]? = w.heap[g]?) : BlkOK w' (Ex X σ') σ' b e := by
 cases b <;> cases e <;> simp only [BlkOK] at h ⊢
 case fix.fix T cs g =>
  obtain ⟨vs, h1, h2, h3⟩ := h
  exact ⟨vs, (hg g rfl).trans h1, h2, fun i s v hs hv => ⟨(h3 i s v hs hv).1.step k hm, (h3 i s v hs hv).2⟩⟩
 case row.row T sz es g sz' n cap =>
  obtain ⟨h1, h2, h3, h4, vs, h5, h6, h7⟩ := h
  refine ⟨h1, h2, h3, h4, vs, h5.same (hg g rfl), h6, fun i e he => ⟨(h7 i e he).1, fun j s hs => ?_⟩⟩
  obtain ⟨v, a, b, c⟩ := (h7 i e he).2 j s hs
  exact ⟨v, a, b.step0 k, c⟩
 case prow.row T sz es g sz' n cap =>
  obtain ⟨h1, h2, h3, h4, vs, h5, h6, h7⟩ := h
  refine ⟨h1, h2, h3, h4, vs, h5.same (hg g rfl), h6, fun i e he => ⟨(h7 i e he).1, fun j s hs => ?_⟩⟩
  obtain ⟨v, a, b, c⟩ := (h7 i e he).2 j s hs
  exact ⟨v, a, b.step k hm, c⟩
 case tail.row T sz es g sz' n cap =>
  obtain ⟨h1, h2, h3, h4, vs, h5, h6, h7⟩ := h
  refine ⟨h1, h2, h3, h4, vs, h5.same (hg g rfl), h6, fun i e he => ⟨(h7 i e he).1, fun j s hs => ?_⟩⟩
  obtain ⟨v, a, b, c⟩ := (h7 i e he).2 j s hs
  exact ⟨v, a, b.step k hm, c⟩
 case gap.row T sz N lo hi pre es post g sz' n cap =>
  obtain ⟨g1, g2, h1, h2, h3, h4, vs, h5, h6, h7⟩ := h
  refine ⟨g1, g2, h1, h2, h3, h4, vs, h5.same (hg g rfl), h6, fun i e he => ⟨(h7 i e he).1, fun j s hs => ?_⟩⟩
  obtain ⟨v, a, b, c⟩ := (h7 i e he).2 j s hs
  exact ⟨v, a, b.step0 k, c⟩
 case gmap.obj pre es g =>
  obtain ⟨ms, ck, h1, h2, h3⟩ := h
  exact ⟨ms, ck, (hg g rfl).trans h1, h2, fun i e m he hm' => ⟨(h3 i e m he hm').1.step0 k, (h3 i e m he hm').2.step0 k⟩⟩
 case mapB.obj es ck g =>
  obtain ⟨ms, h1, h2, h3⟩ := h
  exact ⟨ms, (hg g rfl).trans h1, h2, fun i e m he hm' => ⟨(h3 i e m he hm').1.step0 k, (h3 i e m he hm').2.1.step0 k, (h3 i e m he hm').2.2⟩⟩
 case pmap.obj es ck g =>
  obtain ⟨ms, h1, h2, h3⟩ := h
  exact ⟨ms, (hg g rfl).trans h1, h2, fun i e m he hm' => ⟨(h3 i e m he hm').1.step k hm, (h3 i e m he hm').2.1.step k hm, (h3 i e m he hm').2.2⟩⟩
 case mit.obj mb since seen st g =>
  obtain ⟨r, h1, h2⟩ := h
  refine ⟨r, (hg g rfl).trans h1, ?_⟩
  cases mb with
  | none => exact h2
  | some b =>
   have hlt : ∀ e, σ[b]? = some e -> b < m := fun e he => by have := (List.getElem?_eq_some_iff.1 he).1; omega
   rcases h2 with ⟨g', h2, h3⟩ | h2
   ·exact (k.ents b _ (hlt _ h2) h2 (by simp)).elim (fun q => .inl ⟨g', q, h3⟩) .inr
   ·exact .inr ((k.ents b _ (hlt _ h2) h2 (by simp)).elim id id)
 case sit.obj s pos g => exact (hg g rfl).trans h
 case glob.fix g0 T cs g =>
  obtain ⟨h0, vs, h1, h2, h3⟩ := h
  exact ⟨h0, vs, (hg g rfl).trans h1, h2, fun i s v hs hv => ⟨(h3 i s v hs hv).1.step0 k, (h3 i s v hs hv).2⟩⟩
 all_goals exact h
end Go.Sx

namespace Go.Sx
inductive TI where
 | int (k : IntKind) | bool | str
 | struct (fs : List (Nat × TypeId × Nat))
 | array (n : Nat) (e : TypeId)
 | slice (e : TypeId)
 | ptr (e : TypeId)
 | map (k e : TypeId)
 | iface
 | other | none
 deriving Inhabited, DecidableEq
structure TE where
 ti : TI
 size : Nat
 bytes : Nat
 zero : List SV
 flat : Bool
 zagg : Bool
 deriving Inhabited
abbrev Tab := List (List (List TE))
noncomputable def nthK {α : Type} (l : List α) : Nat -> (α -> Prop) -> Prop :=
 List.rec (motive := fun _ => Nat -> (α -> Prop) -> Prop) (fun _ _ => False) (fun x _ ih n k => Nat.rec (motive := fun _ => Prop) (k x) (fun m _ => ih m k) n) l
noncomputable def setK {α : Type} (l : List α) : Nat -> α -> (List α -> Prop) -> Prop :=
 List.rec (motive := fun _ => Nat -> α -> (List α -> Prop) -> Prop) (fun _ _ _ => False)
  (fun x xs ih n v k => Nat.rec (motive := fun _ => Prop) (k (v :: xs)) (fun m _ => ih m v fun r => k (x :: r)) n) l
noncomputable def takeK {α : Type} (n : Nat) : List α -> (List α -> Prop) -> Prop :=
 Nat.rec (motive := fun _ => List α -> (List α -> Prop) -> Prop) (fun _ k => k [])
  (fun _ ih l k => List.rec (motive := fun _ => Prop) False (fun x xs _ => ih xs fun r => k (x :: r)) l) n
noncomputable def dropK {α : Type} (n : Nat) : List α -> (List α -> Prop) -> Prop :=
 Nat.rec (motive := fun _ => List α -> (List α -> Prop) -> Prop) (fun l k => k l)
  (fun _ ih l k => List.rec (motive := fun _ => Prop) False (fun _ xs _ => ih xs k) l) n
noncomputable def appK {α : Type} (l : List α) : List α -> (List α -> Prop) -> Prop :=
 List.rec (motive := fun _ => List α -> (List α -> Prop) -> Prop) (fun ys k => k ys) (fun x _ ih ys k => ih ys fun r => k (x :: r)) l
noncomputable def overK {α : Type} (l : List α) : List α -> (List α -> Prop) -> Prop :=
 List.rec (motive := fun _ => List α -> (List α -> Prop) -> Prop) (fun vs k => List.rec (motive := fun _ => Prop) (k []) (fun _ _ _ => False) vs)
  (fun x xs ih vs k => List.rec (motive := fun _ => Prop) (k (x :: xs)) (fun v vs' _ => ih vs' fun r => k (v :: r)) vs) l
noncomputable def putK {α : Type} (l : List α) : Nat -> List α -> (List α -> Prop) -> Prop :=
 List.rec (motive := fun _ => Nat -> List α -> (List α -> Prop) -> Prop) (fun n vs k => Nat.rec (motive := fun _ => Prop) (overK [] vs k) (fun _ _ => False) n)
  (fun x xs ih n vs k => Nat.rec (motive := fun _ => Prop) (overK (x :: xs) vs k) (fun m _ => ih m vs fun r => k (x :: r)) n) l
noncomputable def repK {α : Type} (n : Nat) (x : α) (k : List α -> Prop) : Prop := Nat.rec (motive := fun _ => (List α -> Prop) -> Prop) (fun k => k []) (fun _ ih k => ih fun r => k (x :: r)) n k
def neK (n : Nat) (k : Prop) : Prop := match n with | 0 => False | _ + 1 => k
def eqNK (a b : Nat) (k : Prop) : Prop := match Nat.beq a b with | true => k | false => False
def leNK (a b : Nat) (k : Prop) : Prop := match Nat.ble a b with | true => k | false => False
def supply : List Nat := [0,1,2,3,4,5,6,7,8,9,10,11,12,13,14,15,16,17,18,19,20,21,22,23,24,25,26,27,28,29,30,31,32,33,34,35,36,37,38,39,40,41,42,43,44,45,46,47,48,49,50,51,52,53,54,55,56,57,58,59,60,61,62,63]
noncomputable def idK (h : Hp) : List Nat -> (Nat -> Prop) -> Prop :=
 List.rec (motive := fun _ => List Nat -> (Nat -> Prop) -> Prop) (fun ns k => List.rec (motive := fun _ => Prop) False (fun n _ _ => k n) ns)
  (fun _ _ ih ns k => List.rec (motive := fun _ => Prop) False (fun _ ns' _ => ih ns' k) ns) h
noncomputable def lkD {β : Type} (l : List β) : Nat -> Option β :=
 List.rec (motive := fun _ => Nat -> Option β) (fun _ => none) (fun x _ ih n => Nat.rec (motive := fun _ => Option β) (some x) (fun m _ => ih m) n) l
noncomputable def thenD {α β : Type} (o : Option α) (f : α -> Option β) : Option β := Option.rec (motive := fun _ => Option β) none f o
noncomputable def tabD (T : Tab) (t : Nat) : Option TE := thenD (lkD T (Nat.div t 64)) fun a => thenD (lkD a (Nat.mod (Nat.div t 8) 8)) fun b => lkD b (Nat.mod t 8)
noncomputable def tyK (T : Tab) (t : TypeId) (k : TE -> Prop) : Prop := Option.rec (motive := fun _ => Prop) False k (tabD T t)
def cellsK (s : SV) (k : List SV -> Prop) : Prop :=
 match s with
 | .agg cs => k cs
 | .bot => False | .any => False | .undef => False | .tup _ => False | .qb _ => False | .ln _ => False
 | .int q n => k [.int q n] | .tt => k [.tt] | .ff => k [.ff] | .bool b => k [.bool b] | .str s => k [.str s]
 | .nilp => k [.nilp] | .ptr b o => k [.ptr b o] | .ep b i f => k [.ep b i f] | .nils => k [.nils] | .sl b => k [.sl b]
 | .rs z es => k [.rs z es] | .rp z es i f => k [.rp z es i f] | .fn f cs => k [.fn f cs] | .mfn f cs => k [.mfn f cs]
 | .mp b => k [.mp b] | .nilm => k [.nilm] | .ifc T s => k [.ifc T s] | .nili => k [.nili] | .ss b l n => k [.ss b l n] | .it b => k [.it b] | .z0 => k [.z0] | .iv q a l h m r => k [.iv q a l h m r] | .tl b m => k [.tl b m] | .tp b m i f => k [.tp b m i f] | .bs q a c l h => k [.bs q a c l h] | .gp b a j f => k [.gp b a j f]
def ofV : Value -> SV
 | .int k n => .int k n
 | .bool true => .tt
 | .bool false => .ff
 | .string s => .str s.data.toList
 | .pointer none => .nilp
 | .slice none 0 0 => .nils
 | .map none => .nilm
 | .nilIface => .nili
 | _ => .any
def ofVK (v : Value) (k : SV -> Prop) : Prop :=
 match v with
 | .int q n => k (.int q n)
 | .bool b => match b with | true => k .tt | false => k .ff
 | .string s => k (.str s.data.toList)
 | .pointer a => match a with | none => k .nilp | some _ => k .any
 | .slice a l c => match a with
  | none => match l, c with | 0, 0 => k .nils | _, _ => k .any
  | some _ => k .any
 | .map r => match r with | none => k .nilm | some _ => k .any
 | .nilIface => k .nili
 | _ => k .any
noncomputable def evK (F : Fr) (x : Operand) (k : SV -> Prop) : Prop :=
 match x with
 | .tmp t => nthK F t k
 | .const v => ofVK v k
 | .global _ => k .any
 | .func f => k (.fn f [])
noncomputable def evsK (F : Fr) (l : List Operand) : (List SV -> Prop) -> Prop :=
 List.rec (motive := fun _ => (List SV -> Prop) -> Prop) (fun k => k []) (fun x _ ih k => evK F x fun s => ih fun r => k (s :: r)) l
abbrev Ws := List (Nat × Blk)
abbrev Kop := SV -> Ws -> List Nat -> Prop
def asB (s : SV) (k : Bool -> Prop) : Prop :=
 match s with
 | .tt => k true
 | .ff => k false
 | .bool b => k b
 | _ => False
def intK (op : BinOp) (k : IntKind) (a b : Int) (K : SV -> Prop) : Prop :=
 match op with
 | .add => K (.int k (k.wrap (a + b)))
 | .sub => K (.int k (k.wrap (a - b)))
 | .mul => K (.int k (k.wrap (a * b)))
 | .quo => b ≠ 0 /\ K (.int k (k.wrap (a.tdiv b)))
 | .rem => b ≠ 0 /\ K (.int k (a.tmod b))
 | .and => K (.int k (k.wrap ((BitVec.ofInt k.bits a &&& BitVec.ofInt k.bits b).toNat : Int)))
 | .or => K (.int k (k.wrap ((BitVec.ofInt k.bits a ||| BitVec.ofInt k.bits b).toNat : Int)))
 | .xor => K (.int k (k.wrap ((BitVec.ofInt k.bits a ^^^ BitVec.ofInt k.bits b).toNat : Int)))
 | .andNot => K (.int k (k.wrap ((BitVec.ofInt k.bits a &&& ~~~ BitVec.ofInt k.bits b).toNat : Int)))
 | .eql => K (.bool (decide (a = b)))
 | .neq => K (.bool (decide (¬ a = b)))
 | .lss => K (.bool (decide (a < b)))
 | .leq => K (.bool (decide (a <= b)))
 | .gtr => K (.bool (decide (b < a)))
 | .geq => K (.bool (decide (b <= a)))
 | _ => False
def boolK (op : BinOp) (a b : SV) (K : SV -> Prop) : Prop :=
 match op with
 | .eql => asB a fun a => asB b fun b => K (.bool (a == b))
 | .neq => asB a fun a => asB b fun b => K (.bool (!(a == b)))
 | _ => False
def strK (op : BinOp) (a b : List UInt8) (K : SV -> Prop) : Prop :=
 match op with
 | .add => (a.length : Int) + b.length <= 9223372036854775807 /\ K (.str (a ++ b))
 | .eql => K (.bool (decide (a = b)))
 | .neq => K (.bool (!decide (a = b)))
 | .lss => K (.bool (Op.bytesLess a b))
 | .leq => K (.bool (Op.bytesLess a b || decide (a = b)))
 | .gtr => K (.bool (!(Op.bytesLess a b || decide (a = b))))
 | .geq => K (.bool (!Op.bytesLess a b))
 | _ => False
def isAggK (T : Tab) (t : TypeId) (k : Nat -> Bool -> Prop) : Prop := tyK T t fun te => match te.ti with
 | .struct _ => k te.size true
 | .array _ _ => k te.size true
 | .none => False
 | _ => k te.size false
noncomputable def partK (T : Tab) (cs : List SV) (off : Nat) (t : TypeId) (k : SV -> Prop) : Prop :=
 isAggK T t fun n agg => match agg with
  | true => dropK off cs fun r => takeK n r fun c => k (.agg c)
  | false => nthK cs off k
noncomputable def eqK (T : Tab) (n : Nat) : TypeId -> SV -> SV -> (Bool -> Prop) -> Prop :=
 Nat.rec (motive := fun _ => TypeId -> SV -> SV -> (Bool -> Prop) -> Prop) (fun _ _ _ _ => False)
  (fun _ ih t x y k => tyK T t fun te => match te.ti, x, y with
   | .int _, .int q a, .int q' b => if q = q' then k (decide (a = b)) else False
   | .bool, x, y => asB x fun a => asB y fun b => k (a == b)
   | .str, .str a, .str b => k (decide (a = b))
   | .struct fs, .agg xs, .agg ys => match te.flat with
    | true => List.rec (motive := fun _ => (Bool -> Prop) -> Prop) (fun k => k true)
      (fun f _ ih' k => partK T xs f.1 f.2.1 fun a => partK T ys f.1 f.2.1 fun b => ih f.2.1 a b fun r => ih' fun r' => k (r && r')) fs k
    | false => False
   | _, _, _ => False) n
noncomputable def binK (T : Tab) (op : BinOp) (t : TypeId) (x y : SV) (K : SV -> Prop) : Prop :=
 match x, y with
 | .int k a, .int k' b =>
  match op with
  | .shl => 0 <= b /\ K (.int k (k.wrap (a * 2 ^ (min b.toNat k.bits))))
  | .shr => 0 <= b /\ K (.int k (a.fdiv (2 ^ (min b.toNat k.bits))))
  | _ => if k = k' then intK op k a b K else False
 | .str a, .str b => strK op a b K
 | .tt, y => tyK T t fun te => match te.ti with | .bool => boolK op .tt y K | _ => False
 | .ff, y => tyK T t fun te => match te.ti with | .bool => boolK op .ff y K | _ => False
 | .bool b, y => tyK T t fun te => match te.ti with | .bool => boolK op (.bool b) y K | _ => False
 | .agg xs, .agg ys =>
  match op with
  | .eql => eqK T 8 t (.agg xs) (.agg ys) fun b => K (.bool b)
  | .neq => eqK T 8 t (.agg xs) (.agg ys) fun b => K (.bool (!b))
  | _ => False
 | .nilp, .nilp => tyK T t fun te => match te.ti, op with | .ptr _, .eql => K .tt | .ptr _, .neq => K .ff | _, _ => False
 | .ptr _ _, .nilp => tyK T t fun te => match te.ti, op with | .ptr _, .eql => K .ff | .ptr _, .neq => K .tt | _, _ => False
 | .ep _ _ _, .nilp => tyK T t fun te => match te.ti, op with | .ptr _, .eql => K .ff | .ptr _, .neq => K .tt | _, _ => False
 | .rp _ _ _ _, .nilp => tyK T t fun te => match te.ti, op with | .ptr _, .eql => K .ff | .ptr _, .neq => K .tt | _, _ => False
 | .rs _ es, .nils => tyK T t fun te => match te.ti, op with | .slice _, .eql => K (.qb (es = [])) | _, _ => False
 | _, _ => False
def unK (op : UnOp) (x : SV) (K : SV -> Prop) : Prop :=
 match op, x with
 | .neg, .int k n => K (.int k (k.wrap (0 - n)))
 | .xor, .int k n => K (.int k (k.wrap ((BitVec.ofInt k.bits (if k.signed then -1 else k.max) ^^^ BitVec.ofInt k.bits n).toNat : Int)))
 | .not, .tt => K .ff
 | .not, .ff => K .tt
 | .not, .bool b => K (.bool (!b))
 | _, _ => False
def byteCell (b : UInt8) : List SV := [.int .u8 (b.toNat : Int)]
def zeroK (z : List SV) (k : List SV -> Prop) : Prop :=
 match z with
 | [] => k []
 | x :: xs => match x with
  | .bot => False
  | .int q n => k (.int q n :: xs)
  | .ff => k (.ff :: xs)
  | .nilp => k (.nilp :: xs)
  | .nils => k (.nils :: xs)
  | .str s => k (.str s :: xs)
  | .nilm => k (.nilm :: xs)
  | .nili => k (.nili :: xs)
  | .any => k (.any :: xs)
  | _ => False
noncomputable def buildK (F : Fr) (fs : List (Nat × TypeId × Nat)) (ps : List (Nat × Operand)) : List SV -> (List SV -> Prop) -> Prop :=
 List.rec (motive := fun _ => List SV -> (List SV -> Prop) -> Prop) (fun cs k => k cs)
  (fun p _ ih cs k => nthK fs p.1 fun q => evK F p.2 fun s => cellsK s fun c => eqNK c.length q.2.2 (putK cs q.1 c fun cs' => ih cs' k)) ps
def pureK (s : SV) (k : Prop) : Prop :=
 match s with
 | .int _ _ => k | .tt => k | .ff => k | .bool _ => k | .str _ => k | .nilp => k | .nils => k | .rs _ _ => k | .rp _ _ _ _ => k | .iv _ _ _ _ _ _ => k | .bs _ _ _ _ _ => k
 | _ => False
noncomputable def puresK (l : List SV) (k : Prop) : Prop := List.rec (motive := fun _ => Prop) k (fun x _ ih => pureK x ih) l
noncomputable def elemsK (F : Fr) (sz : Nat) (ps : List (Nat × Operand)) : List (List SV) -> (List (List SV) -> Prop) -> Prop :=
 List.rec (motive := fun _ => List (List SV) -> (List (List SV) -> Prop) -> Prop) (fun es k => k es)
  (fun p _ ih es k => evK F p.2 fun s => cellsK s fun c => eqNK c.length sz (puresK c (setK es p.1 c fun es' => ih es' k))) ps
def AtG (n : Int) (k : Nat -> Prop) : Prop := ∃ m : Nat, n = (m : Int) /\ k m
def StrG (es : List (List SV)) (k : List UInt8 -> Prop) : Prop := ∃ s, es = s.map byteCell /\ k s
def ElG (es : List (List SV)) (i : Nat) (k : List SV -> Prop) : Prop := ∃ e, es[i]? = some e /\ k e
noncomputable def readK (T : Tab) (cs : List SV) (off : Nat) (t : TypeId) (k : SV -> Prop) : Prop := partK T cs off t k
def isByteK (T : Tab) (e : TypeId) (k : Prop) : Prop := tyK T e fun te => match te.ti with | .int .u8 => k | _ => False
def dstK (h : Hp) (e : TypeId) (z : Nat) (x : SV) (k : List (List SV) -> Ws -> List Nat -> Prop) : Prop :=
 match x with
 | .nils => k [] [] []
 | .sl b => nthK h b fun blk => match blk with
  | .row t q es => eqNK t e (eqNK q z (k es [(b, .dead)] [b]))
  | _ => False
 | _ => False
def srcK (T : Tab) (h : Hp) (u e : TypeId) (z : Nat) (zs : List SV) (x : SV) (k : List (List SV) -> List Nat -> Prop) : Prop :=
 tyK T u fun tu => match tu.ti, x with
 | .slice _, .rs q es => eqNK q z (k es [])
 | .slice _, .nils => k [] []
 | .slice _, .sl b => nthK h b fun blk => match blk with
  | .row _ q es => eqNK q z (k es [b])
  | _ => False
 | .str, .str s => isByteK T e (eqNK z 1 (k (s.map byteCell) []))
 | .int _, .int _ n => 0 <= n /\ k (List.replicate n.toNat zs) []
 | _, _ => False
def rowK (h : Hp) (x : SV) (k : Nat -> List (List SV) -> List Nat -> Prop) : Prop :=
 match x with
 | .rs z es => k z es []
 | .sl b => nthK h b fun blk => match blk with
  | .row _ z es => k z es [b]
  | _ => False
 | _ => False
noncomputable def opK (T : Tab) (F : Fr) (h : Hp) (nid : Nat) (op : Op) (K : Kop) : Prop :=
 match op with
 | .move x => evK F x fun s => K s [] []
 | .assign x => evK F x fun s => K s [] []
 | .pick c a b => evK F c fun c => match c with
  | .tt => evK F a fun s => K s [] []
  | .ff => evK F b fun s => K s [] []
  | .bool x => evK F a fun a => asB a fun a => evK F b fun b => asB b fun b => K (.bool (cond x a b)) [] []
  | _ => False
 | .alloc t => tyK T t fun te => zeroK te.zero fun z => K (.ptr nid 0) [(nid, .fix t z)] [nid]
 | .box t x => evK F x fun s => cellsK s fun c => K (.ptr nid 0) [(nid, .fix t c)] [nid]
 | .binOp op t x y _ => evK F x fun x => evK F y fun y => binK T op t x y fun s => K s [] []
 | .unOp op _ x => evK F x fun x => unK op x fun s => K s [] []
 | .convert a d x => tyK T a fun ta => tyK T d fun te => evK F x fun x => match ta.ti, te.ti, x with
  | .none, _, _ => False
  | _, .int k, .int _ n => K (.int k (k.wrap n)) [] []
  | .str, .slice e, .str s => isByteK T e (s.length <= 4611686018427387903 /\ K (.sl nid) [(nid, .row e 1 (s.map byteCell))] [nid])
  | .slice e, .slice _, .sl b => isByteK T e (eqNK a d (nthK h b fun blk => match blk with
   | .row t z es => (match es with | [] => False | x :: xs => K (.sl b) [(b, .row t z (x :: xs))] [b])
   | _ => False))
  | .slice e, .str, .nils => isByteK T e (K (.str []) [] [])
  | .slice e, .str, .rs z es => isByteK T e (eqNK z 1 (StrG es fun s => K (.str s) [] []))
  | .slice e, .str, .sl b => isByteK T e (nthK h b fun blk => match blk with
   | .row _ z es => eqNK z 1 (StrG es fun s => K (.str s) [] [b])
   | _ => False)
  | _, _, _ => False
 | .extract x i => evK F x fun x => match x with
  | .tup vs => nthK vs i fun s => K s [] []
  | _ => False
 | .build t ps => tyK T t fun te => match te.ti with
  | .struct fs => zeroK te.zero fun z => buildK F fs ps.toList z fun cs => K (.agg cs) [] []
  | .array _ e => tyK T e fun ee => zeroK ee.zero fun _ => (match ps.toList with
   | [] => zeroK te.zero fun z => K (.agg z) [] []
   | _ => False)
  | _ => False
 | .buildSlice t n ps => tyK T t fun te => match te.ti with
  | .slice e => tyK T e fun ee => zeroK ee.zero fun z => leNK (n * ee.size) 16777216 (leNK 1 ee.size (repK n z fun es => elemsK F ee.size ps.toList es fun es => K (.sl nid) [(nid, .row e ee.size es)] [nid]))
  | _ => False
 | .load t x => evK F x fun x => match x with
  | .ptr b off => nthK h b fun blk => match blk with
   | .fix _ cs => readK T cs off t fun s => K s [] [b]
   | _ => False
  | .ep b i f => nthK h b fun blk => match blk with
   | .row _ _ es => ElG es i fun e => readK T e f t fun s => K s [] [b]
   | _ => False
  | .rp _ es i f => ElG es i fun e => readK T e f t fun s => K s [] []
  | _ => False
 | .store t x v => evK F x fun x => evK F v fun v => cellsK v fun c => isAggK T t fun n _ => eqNK c.length n (match x with
  | .ptr b off => nthK h b fun blk => match blk with
   | .fix t cs => putK cs off c fun cs' => K .undef [(b, .fix t cs')] [b]
   | _ => False
  | .ep b i f => nthK h b fun blk => match blk with
   | .row t z es => puresK c (ElG es i fun e => putK e f c fun e' => K .undef [(b, .row t z (es.set i e'))] [b])
   | _ => False
  | _ => False)
 | .fieldAddr t x f => tyK T t fun te => evK F x fun x => match te.ti, x with
  | .struct fs, .ptr b off => nthK fs f fun p => neK p.2.2 (K (.ptr b (off + p.1)) [] [])
  | .struct fs, .ep b i o => nthK fs f fun p => neK p.2.2 (K (.ep b i (o + p.1)) [] [])
  | .struct fs, .rp z es i o => nthK fs f fun p => neK p.2.2 (K (.rp z es i (o + p.1)) [] [])
  | .struct fs, .gp b N i o => nthK fs f fun p => neK p.2.2 (K (.gp b N i (o + p.1)) [] [])
  | _, _ => False
 | .indexAddr t x i => tyK T t fun te => evK F x fun x => evK F i fun i => match te.ti, x, i with
  | .slice e, .rs z es, .int _ n => isAggK T e fun q _ => match Nat.beq q z with
   | true => (0 <= n /\ n < (es.length : Int)) /\ K (.rp z es n.toNat 0) [] []
   | false => False
  | .slice e, .sl b, .int _ n => nthK h b fun blk => match blk with
   | .row _ z es => isAggK T e fun q _ => match Nat.beq q z with
    | true => (0 <= n /\ n < (es.length : Int)) /\ K (.ep b n.toNat 0) [] [b]
    | false => False
   | _ => False
  | .array len e, .ptr b off, .int _ n => isAggK T e fun q _ => (0 <= n /\ n < (len : Int)) /\ AtG n fun m => K (.ptr b (off + m * q)) [] []
  | _, _, _ => False
 | .nilCheck x => evK F x fun x => match x with
  | .ptr b o => K (.ptr b o) [] []
  | .ep b i f => K (.ep b i f) [] []
  | .rp z es i f => K (.rp z es i f) [] []
  | .gp b N i f => K (.gp b N i f) [] []
  | _ => False
 | .slice t x lo hi mx => tyK T t fun te => evK F x fun x => match mx with
  | some _ => False
  | none => boundK F lo 0 fun l => match te.ti, x with
   | .str, .str s => boundK F hi s.length fun u => (0 <= l /\ l <= u /\ u <= (s.length : Int)) /\ K (.str ((s.take u.toNat).drop l.toNat)) [] []
   | .slice e, .rs z es => isAggK T e fun q _ => match Nat.beq q z with
    | true => boundK F hi es.length fun u => (0 <= l /\ l <= u /\ u <= (es.length : Int)) /\ K (.rs z ((es.take u.toNat).drop l.toNat)) [] []
    | false => False
   | _, _ => False
 | .index t x i => tyK T t fun te => evK F x fun x => evK F i fun i => match te.ti, x, i with
  | .str, .str s, .int _ n => (0 <= n /\ n < (s.length : Int)) /\ K (.int .u8 ((s.getD n.toNat 0).toNat : Int)) [] []
  | _, _, _ => False
 | .field t x f => tyK T t fun te => evK F x fun x => match te.ti, x with
  | .struct fs, .agg cs => nthK fs f fun p => partK T cs p.1 p.2.1 fun s => K s [] []
  | _, _ => False
 | .makeFunc fn first caps => match fn, first.toList with
  | .func f, [] => evsK F caps.toList fun l => K (.fn f l) [] []
  | _, _ => False
 | .makeSlice t n c => tyK T t fun te => match te.ti with
  | .slice e => tyK T e fun ee => zeroK ee.zero fun z => evK F n fun n => evK F c fun c => match n, c with
   | .int _ n, .int _ c => (c = n /\ 0 <= n /\ n * ee.bytes <= 281474976710656 /\ n <= 9223372036854775807 /\ 0 < ee.size) /\ K (.sl nid) [(nid, .row e ee.size (List.replicate n.toNat z))] [nid]
   | _, _ => False
  | _ => False
 | .call c => match c.callee with
  | .builtin .len => evsK F c.args.toList fun l => match c.argTypes.toList with
   | [t] => tyK T t fun te => match te.ti, l with
    | .str, [.str s] => K (.int .i64 (s.length : Int)) [] []
    | .slice _, [.nils] => K (.int .i64 0) [] []
    | .slice _, [.rs _ es] => K (.int .i64 (es.length : Int)) [] []
    | .slice _, [.ln n] => K (.int .i64 (n : Int)) [] []
    | .slice _, [.sl b] => nthK h b fun blk => match blk with
     | .row _ _ es => K (.int .i64 (es.length : Int)) [] [b]
     | _ => False
    | _, _ => False
   | _ => False
  | .builtin .min => evsK F c.args.toList fun l => match l with
   | [.int k x, .int _ y] => K (.int k (if y < x then y else x)) [] []
   | [.int k x, .int _ y, .int _ z] => K (.int k (if z < (if y < x then y else x) then z else (if y < x then y else x))) [] []
   | _ => False
  | .builtin .max => evsK F c.args.toList fun l => match l with
   | [.int k x, .int _ y] => K (.int k (if y > x then y else x)) [] []
   | [.int k x, .int _ y, .int _ z] => K (.int k (if z > (if y > x then y else x) then z else (if y > x then y else x))) [] []
   | _ => False
  | .builtin .append => evsK F c.args.toList fun l => match c.argTypes.toList with
   | [t, u] => tyK T t fun te => match te.ti with
    | .slice e => tyK T e fun ee => zeroK ee.zero fun zs => leNK 1 ee.size (match l with
     | [s, x] => dstK h e ee.size s fun es kill rd => srcK T h u e ee.size zs x fun xs rd' =>
      (es.length + xs.length <= 4611686018427387903 /\ (es.length + xs.length) * ee.bytes <= 140737488355328) /\ K (.sl nid) ((nid, .row e ee.size (es ++ xs)) :: kill) (nid :: (rd ++ rd'))
     | _ => False)
    | _ => False
   | _ => False
  | _ => False
 | _ => False
 where
 boundK (F : Fr) (x : Option Operand) (d : Nat) (k : Int -> Prop) : Prop :=
  match x with
  | none => k (d : Int)
  | some x => evK F x fun s => match s with
   | .int _ n => k n
   | _ => False
noncomputable def updK (ws : Ws) : Hp -> (Hp -> Prop) -> Prop :=
 List.rec (motive := fun _ => Hp -> (Hp -> Prop) -> Prop) (fun h k => k h) (fun p _ ih h k => setK h p.1 p.2 fun h' => ih h' k) ws
def upd (ws : Ws) (h : Hp) : Hp := ws.foldl (fun h p => h.set p.1 p.2) h
noncomputable def slB (T : Tab) (t : TypeId) : Bool := Option.rec (motive := fun _ => Bool) false (fun te => match te.ti with | .slice _ => true | _ => false) (tabD T t)
noncomputable def allocs (T : Tab) (op : Op) : Bool :=
 match op with
 | .alloc _ => true
 | .box _ _ => true
 | .buildSlice .. => true
 | .makeSlice .. => true
 | .convert _ d _ => slB T d
 | .call c => match c.callee with | .builtin .append => true | _ => false
 | _ => false
def DoneS (P : Program) (m : Sem Next) (w : World) (R : Value -> World -> Prop) : Prop :=
 match m.run P w with
 | .ok (.value v) w' => R v w'
 | .ok .skip w' => R Go.undef w'
 | .ok (.enter f args) w' => Calls P f args w' fun e w'' => ∃ v, e = .returned v /\ R v w''
 | _ => False
def RepL (w : World) (E : Nat -> Prop) (σ : Sg) (ss : List SV) (vs : List Value) : Prop :=
 ss.length = vs.length /\ ∀ (i : Nat) (s : SV) (v : Value), ss[i]? = some s -> vs[i]? = some v -> Rep w E σ s v
/-- A call of function f at these arguments, from heap h on, hands back s and leaves h', of which K holds. -/
structure CallG (P : Program) (f : FuncId) (args : List SV) (h : Hp) (K : SV -> Hp -> Prop) : Prop where
 ok : ∀ (w : World) (X : Nat -> Prop) (σ : Sg) (vs : List Value), Inv w X σ h -> RepL w (Ex X σ) σ args vs ->
  DoneS P (callFunc f vs.toArray) w fun v w' => ∃ s h' σ', K s h' /\ Rep w' (Ex X σ') σ' s v /\ Inv w' X σ' h' /\ Step σ.length w σ w' σ'
inductive SX where
 | normal | exit (id : Nat) | ret
abbrev Post := SX -> Fr -> Hp -> Prop
def SX.of : Exit -> Option SX
 | .normal => some .normal
 | .exit id => some (.exit id)
 | .ret => some .ret
 | _ => none
def SPost (m : Nat) (X : Nat -> Prop) (w0 : World) (σ0 : Sg) (K : Post) (e : Exit) (a : Act) (w : World) : Prop :=
 a.defers = [] /\ ∃ x F h σ, SX.of e = some x /\ K x F h /\ Inv w X σ h /\ FRep w (Ex X σ) σ F a.tmps /\ Step m w0 σ0 w σ
def SOK (P : Program) (m : Nat) (c : Code) (F : Fr) (h : Hp) (K : Post) : Prop :=
 ∀ (w : World) (X : Nat -> Prop) (σ : Sg) (tmps : Array Value), Inv w X σ h -> FRep w (Ex X σ) σ F tmps -> c.wp P (SPost m X w σ K) ⟨tmps, []⟩ w
structure LoopG (P : Program) (m : Nat) (c : Code) (F : Fr) (h : Hp) (K : Post) : Prop where
 ok : SOK P m (.loop c) F h K
structure DrawG (P : Program) (m : Nat) (id : Nat) (ops : Array Oper) (F : Fr) (h : Hp) (K : Fr -> Hp -> Prop) : Prop where
 ok : SOK P m (.region id ops true) F h fun x F h => x = .normal /\ K F h
noncomputable def oneK (P : Program) (T : Tab) (F : Fr) (h : Hp) (op : Op) (K : SV -> Hp -> Prop) : Prop :=
 match op with
 | .call { callee := .value x, args := xs, .. } => evK F x fun x => match x with
  | .fn f cs => evsK F xs.toList fun l => appK l cs fun l => CallG P f l h K
  | _ => False
 | op => match allocs T op with
  | true => idK h supply fun n => appK h [.fresh] fun h' => opK T F h' n op fun s ws _ => updK ws h' fun h'' => K s h''
  | false => opK T F h 0 op fun s ws _ => updK ws h fun h'' => K s h''
noncomputable def putD (F : Fr) (d : Option Tmp) (s : SV) (K : Fr -> Prop) : Prop :=
 match d with
 | none => K F
 | some d => setK F d s K
def dstOf (ops : List Oper) (j : Nat) : Option Tmp := (ops[j]?).bind (·.dst)
noncomputable def guardK (ops : List Oper) (F : Fr) (g : Option (Nat × Bool)) (yes no : Fr -> Prop) : Prop :=
 match g with
 | none => yes F
 | some (j, want) => match dstOf ops j with
  | none => False
  | some d => nthK F d fun s => match s, want with
   | .tt, true => yes F
   | .tt, false => no F
   | .ff, true => no F
   | .ff, false => yes F
   | .undef, _ => no F
   | .bool b, true => (b = true -> setK F d .tt yes) /\ (b = false -> setK F d .ff no)
   | .bool b, false => (b = true -> setK F d .tt no) /\ (b = false -> setK F d .ff yes)
   | _, _ => False
noncomputable def opsK (P : Program) (T : Tab) (all : List Oper) (l : List Oper) : Fr -> Hp -> (Fr -> Hp -> Prop) -> Prop :=
 List.rec (motive := fun _ => Fr -> Hp -> (Fr -> Hp -> Prop) -> Prop) (fun F h K => K F h)
  (fun o _ ih F h K => guardK all F o.guard
   (fun F => oneK P T F h o.op fun s h' => putD F o.dst s fun F' => ih F' h' K)
   (fun F => putD F o.dst .undef fun F' => ih F' h K)) l
noncomputable def codeK (P : Program) (T : Tab) (m : Nat) (c : Code) : Fr -> Hp -> Post -> Prop :=
 Code.rec (motive := fun _ => Fr -> Hp -> Post -> Prop)
  (fun F h K => K .normal F h)
  (fun id ops draw F h K => match draw with
   | false => opsK P T ops.toList ops.toList F h (K .normal)
   | true => DrawG P m id ops F h (K .normal))
  (fun _ _ iha ihb F h K => iha F h fun x F h => match x with
   | .normal => ihb F h K
   | .exit i => K (.exit i) F h
   | .ret => K .ret F h)
  (fun c _ _ iha ihb F h K => evK F c fun s => match s with
   | .tt => iha F h K
   | .ff => ihb F h K
   | .qb p => (p -> iha F h K) /\ ihb F h K
   | .bool x => match c with
    | .tmp d => (x = true -> setK F d .tt fun F => iha F h K) /\ (x = false -> setK F d .ff fun F => ihb F h K)
    | _ => False
   | _ => False)
  (fun id _ ih F h K => ih F h fun x F h => match x with
   | .normal => K .normal F h
   | .exit i => match Nat.beq i id with
    | true => K .normal F h
    | false => K (.exit i) F h
   | .ret => K .ret F h)
  (fun c _ F h K => LoopG P m c F h K)
  (fun _ _ _ _ _ _ _ _ _ => False)
  (fun id F h K => K (.exit id) F h)
  (fun _ ih F h K => ih F h K)
  (fun _ F h K => K .normal F h)
  (fun _ _ _ _ => False)
  (fun F h K => K .ret F h)
  (fun _ _ _ _ => False) c
noncomputable def resK (h : Hp) (F : Fr) (T : Tab) (l : List ResultVar) : (List SV -> Prop) -> Prop :=
 List.rec (motive := fun _ => (List SV -> Prop) -> Prop) (fun k => k [])
  (fun r _ ih k => match r with
   | .tmp t => nthK F t fun s => ih fun r => k (s :: r)
   | .cell a t => nthK F a fun s => match s with
    | .ptr b off => nthK h b fun blk => match blk with
     | .fix _ cs => readK T cs off t fun s => ih fun r => k (s :: r)
     | _ => False
    | _ => False) l
def tupK (l : List SV) (k : SV -> Prop) : Prop :=
 match l with
 | [s] => k s
 | [] => k (.tup [])
 | s :: s' :: l => k (.tup (s :: s' :: l))
noncomputable def retK (T : Tab) (fn : Func) (R : SV -> Hp -> Prop) : Post := fun x F h => match x with
 | .normal => resK h F T fn.results.toList fun l => tupK l fun s => R s h
 | .ret => resK h F T fn.results.toList fun l => tupK l fun s => R s h
 | .exit _ => False
noncomputable def startK (args : List SV) (n : Nat) (k : Fr -> Prop) : Prop := repK n SV.undef fun r => dropK args.length r fun r => appK args r k
end Go.Sx

namespace Go.Sx
section
variable {α : Type} {k : List α -> Prop}
theorem nthK_sound {l : List α} : ∀ {n : Nat} {k : α -> Prop}, nthK l n k -> ∃ x, l[n]? = some x /\ k x := by
 induction l with
 | nil => intro n k h; exact h.elim
 | cons x xs ih =>
  intro n k h
  cases n with
  | zero => exact ⟨x, rfl, h⟩
  | succ n => exact ih (n := n) h
theorem setK_sound {l : List α} : ∀ {n : Nat} {v : α} {k : List α -> Prop}, setK l n v k -> n < l.length /\ k (l.set n v) := by
 induction l with
 | nil => intro n v k h; exact h.elim
 | cons x xs ih =>
  intro n v k h
  cases n with
  | zero => exact ⟨by simp, h⟩
  | succ n =>
   have := ih (n := n) (v := v) (k := fun r => k (x :: r)) h
   exact ⟨by simp; omega, this.2⟩
theorem takeK_sound : ∀ {n : Nat} {l : List α} {k : List α -> Prop}, takeK n l k -> n <= l.length /\ k (l.take n) := by
 intro n
 induction n with
 | zero => intro l k h; exact ⟨by simp, by simpa using (show k [] from h)⟩
 | succ n ih =>
  intro l k h
  cases l with
  | nil => exact h.elim
  | cons x xs =>
   have := ih (l := xs) (k := fun r => k (x :: r)) h
   exact ⟨by simp; omega, this.2⟩
theorem dropK_sound : ∀ {n : Nat} {l : List α} {k : List α -> Prop}, dropK n l k -> n <= l.length /\ k (l.drop n) := by
 intro n
 induction n with
 | zero => intro l k h; exact ⟨by simp, by simpa using (show k l from h)⟩
 | succ n ih =>
  intro l k h
  cases l with
  | nil => exact h.elim
  | cons x xs =>
   have := ih (l := xs) (k := k) h
   exact ⟨by simp; omega, this.2⟩
theorem appK_sound {l : List α} : ∀ {ys : List α} {k : List α -> Prop}, appK l ys k -> k (l ++ ys) := by
 induction l with
 | nil => intro ys k h; exact h
 | cons x xs ih => intro ys k h; exact ih (ys := ys) (k := fun r => k (x :: r)) h
theorem overK_sound {l : List α} : ∀ {vs : List α} {k : List α -> Prop}, overK l vs k -> vs.length <= l.length /\ k (vs ++ l.drop vs.length) := by
 induction l with
 | nil =>
  intro vs k h
  cases vs with
  | nil => exact ⟨by simp, h⟩
  | cons v vs => exact h.elim
 | cons x xs ih =>
  intro vs k h
  cases vs with
  | nil => exact ⟨by simp, h⟩
  | cons v vs =>
   have := ih (vs := vs) (k := fun r => k (v :: r)) h
   exact ⟨by simp; omega, by simpa using this.2⟩
theorem putK_sound {l : List α} : ∀ {n : Nat} {vs : List α} {k : List α -> Prop}, putK l n vs k -> n + vs.length <= l.length /\ k (l.take n ++ (vs ++ l.drop (n + vs.length))) := by
 induction l with
 | nil =>
  intro n vs k h
  cases n with
  | zero => have := overK_sound (l := ([] : List α)) h; simpa using this
  | succ n => exact h.elim
 | cons x xs ih =>
  intro n vs k h
  cases n with
  | zero => have := overK_sound (l := x :: xs) h; simpa using this
  | succ n =>
   have := ih (n := n) (vs := vs) (k := fun r => k (x :: r)) h
   refine ⟨by simp; omega, ?_⟩
   rw [show n + 1 + vs.length = (n + vs.length) + 1 by omega]
   simpa using this.2
theorem repK_sound {n : Nat} {x : α} : ∀ {k : List α -> Prop}, repK n x k -> k (List.replicate n x) := by
 induction n with
 | zero => intro k h; exact h
 | succ n ih => intro k h; exact ih (k := fun r => k (x :: r)) h
theorem idK_sound {h : Hp} : ∀ {ns : List Nat} {k : Nat -> Prop}, idK h ns k -> ∃ n, ns[h.length]? = some n /\ k n := by
 induction h with
 | nil =>
  intro ns k h
  cases ns with
  | nil => exact h.elim
  | cons n ns => exact ⟨n, rfl, h⟩
 | cons b h ih =>
  intro ns k hh
  cases ns with
  | nil => exact hh.elim
  | cons n ns => simpa using ih (ns := ns) (k := k) hh
theorem neK_sound {n : Nat} {k : Prop} (h : neK n k) : n ≠ 0 /\ k := by
 cases n with
 | zero => exact h.elim
 | succ n => exact ⟨by omega, h⟩
theorem eqNK_sound {a b : Nat} {k : Prop} (h : eqNK a b k) : a = b /\ k := by
 unfold eqNK at h
 split at h
 ·rename_i hb; exact ⟨Nat.eq_of_beq_eq_true hb, h⟩
 ·exact h.elim
theorem leNK_sound {a b : Nat} {k : Prop} (h : leNK a b k) : a <= b /\ k := by
 unfold leNK at h
 split at h
 ·rename_i hb; exact ⟨Nat.le_of_ble_eq_true hb, h⟩
 ·exact h.elim
theorem supply_get {i n : Nat} (h : supply[i]? = some n) : n = i := by
 have hlt : i < supply.length := (List.getElem?_eq_some_iff.1 h).1
 have : ∀ j, j < supply.length -> supply[j]? = some j := by decide
 rw [this i hlt] at h
 exact (Option.some.inj h).symm
end
theorem oneCell_of_cellsK {w : World} {E : Nat -> Prop} {σ : Sg} {s : SV} {v : Value} {k : List SV -> Prop} (h : Rep w E σ s v) (hk : cellsK s k) :
    ∃ cs : List SV, k cs /\ cs.length = v.cells.size /\ ∀ (i : Nat) (s : SV) (u : Value), cs[i]? = some s -> v.cells[i]? = some u -> Rep w E σ s u /\ u.oneCell' = true := by
  cases h <;> simp only [cellsK] at hk
  case agg cs vs hl h1 h =>
    exact ⟨cs, hk, by simpa [Value.cells] using hl, fun i s u hs hu => ⟨h i s u hs hu, h1 i u hu⟩⟩
  all_goals first
    | exact hk.elim
    | (refine ⟨_, hk, rfl, ?_⟩
       intro i s u hs hu
       cases i with
       | zero =>
         simp [Value.cells] at hs hu
         subst hs; subst hu
         exact ⟨by first | (constructor; done) | (constructor <;> assumption) | exact .ptrD ‹_› | exact .epD ‹_› | exact .slD ‹_› | exact .slN ‹_›, rfl⟩
       | succ i => simp at hs)
theorem pureK_sound {s : SV} {k : Prop} (h : pureK s k) : k /\ ∀ (w : World) (E : Nat -> Prop) (σ σ' : Sg) (v : Value), Rep w E σ s v -> Rep w E σ' s v := by
 cases s <;> simp only [pureK] at h <;> refine ⟨h, fun w E σ σ' v hr => ?_⟩ <;> cases hr <;> constructor <;> assumption
theorem puresK_sound {l : List SV} {k : Prop} (h : puresK l k) : k /\ ∀ s ∈ l, ∀ (w : World) (E : Nat -> Prop) (σ σ' : Sg) (v : Value), Rep w E σ s v -> Rep w E σ' s v := by
 induction l with
 | nil => exact ⟨h, by simp⟩
 | cons x xs ih =>
  obtain ⟨h1, h2⟩ := pureK_sound (show pureK x (puresK xs k) from h)
  obtain ⟨h3, h4⟩ := ih h1
  refine ⟨h3, fun s hs => ?_⟩
  rcases List.mem_cons.1 hs with rfl | hs
  ·exact h2
  ·exact h4 s hs
theorem rep_str {w : World} {E : Nat -> Prop} {σ : Sg} (s : ByteArray) : Rep w E σ (.str s.data.toList) (.string s) := by
 cases s with | mk d => exact .str
def OpnRep (w : World) (E : Nat -> Prop) (σ : Sg) (F : Fr) (ρ : Operand -> Value) (x : Operand) : Prop :=
 match x with
 | .tmp t => ∀ s, F[t]? = some s -> Rep w E σ s (ρ (.tmp t))
 | .const v => ρ (.const v) = v
 | .global g => ρ (.global g) = .pointer (some ⟨g, 0, none⟩)
 | .func f => ρ (.func f) = .func (.func f) #[] #[]
theorem evK_sound {F : Fr} {x : Operand} {k : SV -> Prop} (h : evK F x k) :
  ∃ s, k s /\ ∀ (w : World) (E : Nat -> Prop) (σ : Sg) (ρ : Operand -> Value), OpnRep w E σ F ρ x -> Rep w E σ s (ρ x) := by
 cases x with
 | tmp t =>
  obtain ⟨s, hs, hk⟩ := nthK_sound (show nthK F t k from h)
  exact ⟨s, hk, fun w E σ ρ hρ => hρ s hs⟩
 | const v =>
  have h : ofVK v k := h
  -- the witness does not hang on the world
  have : ∃ s, k s /\ ∀ (w : World) (E : Nat -> Prop) (σ : Sg), Rep w E σ s v := by
   unfold ofVK at h
   split at h
   ·exact ⟨_, h, fun _ _ _ => .int⟩
   ·split at h
    ·exact ⟨_, h, fun _ _ _ => .tt⟩
    ·exact ⟨_, h, fun _ _ _ => .ff⟩
   ·exact ⟨_, h, fun _ _ _ => rep_str _⟩
   ·split at h
    ·exact ⟨_, h, fun _ _ _ => .nilp⟩
    ·exact ⟨_, h, fun _ _ _ => .any⟩
   ·split at h
    ·split at h
     ·exact ⟨_, h, fun _ _ _ => .nils⟩
     ·exact ⟨_, h, fun _ _ _ => .any⟩
    ·exact ⟨_, h, fun _ _ _ => .any⟩
   ·split at h
    ·exact ⟨_, h, fun _ _ _ => .nilm⟩
    ·exact ⟨_, h, fun _ _ _ => .any⟩
   ·exact ⟨_, h, fun _ _ _ => .nili⟩
   ·exact ⟨_, h, fun _ _ _ => .any⟩
  obtain ⟨s, hk, hr⟩ := this
  exact ⟨s, hk, fun w E σ ρ hρ => by rw [show ρ (.const v) = v from hρ]; exact hr w E σ⟩
 | global g => exact ⟨.any, h, fun _ _ _ _ _ => .any⟩
 | func f => exact ⟨.fn f [], h, fun w E σ ρ hρ => by rw [show ρ (.func f) = _ from hρ]; exact .fn rfl (by simp)⟩
theorem evsK_sound {F : Fr} {l : List Operand} : ∀ {k : List SV -> Prop}, evsK F l k ->
  ∃ ss, k ss /\ ∀ (w : World) (E : Nat -> Prop) (σ : Sg) (ρ : Operand -> Value), (∀ x ∈ l, OpnRep w E σ F ρ x) -> RepL w E σ ss (l.map ρ) := by
 induction l with
 | nil => intro k h; exact ⟨[], h, fun w E σ ρ _ => ⟨rfl, by simp⟩⟩
 | cons x l ih =>
  intro k h
  obtain ⟨s, h1, hr⟩ := evK_sound (show evK F x (fun s => evsK F l fun r => k (s :: r)) from h)
  obtain ⟨ss, h2, hrs⟩ := ih h1
  refine ⟨s :: ss, h2, fun w E σ ρ hρ => ?_⟩
  have a := hr w E σ ρ (hρ x (by simp))
  have b := hrs w E σ ρ fun y hy => hρ y (by simp [hy])
  refine ⟨by simpa using b.1, fun i s' v hs hv => ?_⟩
  cases i with
  | zero => simp at hs hv; subst hs; subst hv; exact a
  | succ i => exact b.2 i s' v (by simpa using hs) (by simpa using hv)
theorem asB_sound {s : SV} {k : Bool -> Prop} (h : asB s k) : ∃ b, k b /\ ∀ (w : World) (E : Nat -> Prop) (σ : Sg) (v : Value), Rep w E σ s v -> v = .bool b := by
 unfold asB at h
 split at h
 ·exact ⟨_, h, fun w E σ v hr => by cases hr; rfl⟩
 ·exact ⟨_, h, fun w E σ v hr => by cases hr; rfl⟩
 ·exact ⟨_, h, fun w E σ v hr => by cases hr; rfl⟩
 ·exact h.elim
end Go.Sx

namespace Go.Sx
def tiOf (P : Program) (t : TypeId) : TI :=
 match P.underlying t with
 | some (.int k) => .int k
 | some .bool => .bool
 | some .string => .str
 | some (.struct fs) => if fs.toList.all (fun f => (P.info? f.type).isSome) then .struct (fs.toList.map fun f => (f.offset, f.type, P.cellsOf f.type)) else .none
 | some (.array n e) => .array n e
 | some (.slice e) => .slice e
 | some (.pointer e) => .ptr e
 | some (.map k e) => .map k e
 | some (.interface _) => .iface
 | some _ => .other
 | none => .none
def flatOf (P : Program) (t : TypeId) : Bool :=
 match P.underlying t with
 | some (.struct fs) => !P.stoodInHeld t && fs.toList.all (fun f => f.name != "_") && !P.eqGuardType P.depth t
 | _ => false
def zeroOf (i : TypeInfo) : List SV :=
 match i.zero with
 | some z => if z.cells.toList.all (·.oneCell') && z.cells.size == i.size then z.cells.toList.map ofV else [.bot]
 | none => [.bot]
def zaggOf (i : TypeInfo) : Bool := match i.zero with | some (.agg _) => true | _ => false
def teOf (P : Program) (t : TypeId) : TE :=
 match P.info? t with
 | none => ⟨.none, 0, 0, [.bot], false, false⟩
 | some i => ⟨tiOf P t, i.size, i.bytes, zeroOf i, flatOf P t, zaggOf i⟩
def tabOf (P : Program) (n : Nat) : Tab := (List.range n).map fun i => (List.range 8).map fun j => (List.range 8).map fun k => teOf P (64 * i + 8 * j + k)
def TabOK (P : Program) (T : Tab) : Prop := ∀ t te, tabD T t = some te -> te = teOf P t
theorem lkD_eq {β : Type} (l : List β) : ∀ n, lkD l n = l[n]? := by
 induction l with
 | nil => intro n; rfl
 | cons x l ih =>
  intro n
  cases n with
  | zero => rfl
  | succ n => exact ih n
theorem thenD_eq {α β : Type} {o : Option α} {f : α -> Option β} {b : β} (h : thenD o f = some b) : ∃ a, o = some a /\ f a = some b := by
 cases o with
 | none => simp [thenD] at h
 | some a => exact ⟨a, rfl, h⟩
theorem map_range {β : Type} {f : Nat -> β} {n i : Nat} {b : β} (h : ((List.range n).map f)[i]? = some b) : b = f i := by
 rw [List.getElem?_map] at h
 cases hr : (List.range n)[i]? with
 | none => rw [hr] at h; simp at h
 | some u =>
  have h2 := List.getElem?_eq_some_iff.1 hr
  obtain ⟨h1, h2⟩ := h2
  have : u = i := by simpa using h2.symm
  subst this
  rw [hr] at h
  simpa using h.symm
theorem tabOf_ok (P : Program) (n : Nat) {T : Tab} (h : tabOf P n = T) : TabOK P T := by
 subst h
 intro t te ht
 obtain ⟨a, ha, ht⟩ := thenD_eq ht
 obtain ⟨b, hb, ht⟩ := thenD_eq ht
 rw [lkD_eq] at ha hb ht
 have ha := map_range (show ((List.range n).map _)[Nat.div t 64]? = some a from ha)
 subst ha
 have hb := map_range hb
 subst hb
 have ht := map_range ht
 rw [ht]
 congr 1
 show 64 * (t / 64) + 8 * (t / 8 % 8) + t % 8 = t
 omega
section
variable {P : Program} {T : Tab}
theorem tyK_get {t : TypeId} {k : TE -> Prop} (h : tyK T t k) : ∃ te, tabD T t = some te /\ k te := by
 unfold tyK at h
 generalize tabD T t = o at h
 cases o with
 | none => exact h.elim
 | some te => exact ⟨te, rfl, h⟩
theorem tyK_mk {t : TypeId} {te : TE} {k : TE -> Prop} (h : tabD T t = some te) (hk : k te) : tyK T t k := by
 unfold tyK; rw [h]; exact hk
theorem tyK_sound (hT : TabOK P T) {t : TypeId} {k : TE -> Prop} (h : tyK T t k) : k (teOf P t) := by
 obtain ⟨te, h1, h2⟩ := tyK_get h
 rw [<- hT t te h1]; exact h2
theorem info_of_ti {t : TypeId} (h : (teOf P t).ti ≠ .none) : ∃ i, P.info? t = some i /\ teOf P t = ⟨tiOf P t, i.size, i.bytes, zeroOf i, flatOf P t, zaggOf i⟩ := by
 unfold teOf at h ⊢
 split
 ·rename_i hi; simp [hi] at h
 ·rename_i i hi; exact ⟨i, hi, rfl⟩
theorem ti_of {t : TypeId} {x : TI} (h : (teOf P t).ti = x) (hx : x ≠ .none) : tiOf P t = x /\ ∃ i, P.info? t = some i /\ (teOf P t).size = i.size /\ (teOf P t).bytes = i.bytes /\ (teOf P t).zero = zeroOf i /\ (teOf P t).flat = flatOf P t := by
 obtain ⟨i, hi, he⟩ := info_of_ti (P := P) (t := t) (by rw [h]; exact hx)
 rw [he] at h
 exact ⟨h, i, hi, by rw [he], by rw [he], by rw [he], by rw [he]⟩
theorem und_int {t : TypeId} {k : IntKind} (h : tiOf P t = .int k) : P.underlying t = some (.int k) := by
 unfold tiOf at h; split at h <;> (try split at h) <;> simp_all
theorem und_bool {t : TypeId} (h : tiOf P t = .bool) : P.underlying t = some .bool := by
 unfold tiOf at h; split at h <;> (try split at h) <;> simp_all
theorem und_str {t : TypeId} (h : tiOf P t = .str) : P.underlying t = some .string := by
 unfold tiOf at h; split at h <;> (try split at h) <;> simp_all
theorem und_struct {t : TypeId} {fs : List (Nat × TypeId × Nat)} (h : tiOf P t = .struct fs) :
  ∃ fields, P.underlying t = some (.struct fields) /\ fs = (fields.toList.map fun f => (f.offset, f.type, P.cellsOf f.type)) /\ ∀ f ∈ fields.toList, (P.info? f.type).isSome = true := by
 unfold tiOf at h
 split at h
 case h_4 fields hu =>
  split at h
  ·rename_i hall
   injection h with h
   exact ⟨fields, hu, h.symm, fun f hf => List.all_eq_true.1 hall f hf⟩
  ·simp at h
 all_goals simp at h
theorem und_array {t : TypeId} {n : Nat} {e : TypeId} (h : tiOf P t = .array n e) : P.underlying t = some (.array n e) := by
 unfold tiOf at h; split at h <;> (try split at h) <;> simp_all
theorem und_slice {t : TypeId} {e : TypeId} (h : tiOf P t = .slice e) : P.underlying t = some (.slice e) := by
 unfold tiOf at h; split at h <;> (try split at h) <;> simp_all
theorem und_map {t : TypeId} {k e : TypeId} (h : tiOf P t = .map k e) : P.underlying t = some (.map k e) := by
 unfold tiOf at h; split at h <;> (try split at h) <;> simp_all
theorem und_iface {t : TypeId} (h : tiOf P t = .iface) : ∃ ms, P.underlying t = some (.interface ms) := by
 unfold tiOf at h; split at h <;> (try split at h) <;> simp_all
theorem und_ptr {t : TypeId} {e : TypeId} (h : tiOf P t = .ptr e) : P.underlying t = some (.pointer e) := by
 unfold tiOf at h; split at h <;> (try split at h) <;> simp_all
theorem run_underlying' {t : TypeId} {d : TypeDesc} (h : P.underlying t = some d) (w : World) : (underlying t).run P w = .ok d w := run_underlying h w
theorem run_info {t : TypeId} {i : TypeInfo} (h : P.info? t = some i) (w : World) : (typeInfo t).run P w = .ok i w := by
 simp [typeInfo, h]
theorem run_sizeOf {t : TypeId} {i : TypeInfo} (h : P.info? t = some i) (w : World) : (sizeOf t).run P w = .ok i.size w := by
 simp [sizeOf, run_info h]
theorem isAggK_sound (hT : TabOK P T) {t : TypeId} {k : Nat -> Bool -> Prop} (h : isAggK T t k) :
  ∃ n b, k n b /\ (∀ w, (isAgg t).run P w = .ok b w) /\ (∀ w, (sizeOf t).run P w = .ok n w) := by
 unfold isAggK at h
 have h := tyK_sound hT h
 have key : ∀ x : TI, (teOf P t).ti = x -> x ≠ .none -> (∀ b, (∀ w, (isAgg t).run P w = .ok b w) -> k (teOf P t).size b -> ∃ n b, k n b /\ (∀ w, (isAgg t).run P w = .ok b w) /\ (∀ w, (sizeOf t).run P w = .ok n w)) := by
  intro x hx hn b hb hk
  obtain ⟨_, i, hi, hs, _⟩ := ti_of hx hn
  exact ⟨_, b, hk, hb, fun w => by rw [hs]; exact run_sizeOf hi w⟩
 cases hti : (teOf P t).ti with
 | struct fs =>
  rw [hti] at h
  obtain ⟨fields, hu, _⟩ := und_struct (ti_of hti (by simp)).1
  exact key _ hti (by simp) true (fun w => by simp [isAgg, run_underlying' hu]) h
 | array n e =>
  rw [hti] at h
  have hu := und_array (ti_of hti (by simp)).1
  exact key _ hti (by simp) true (fun w => by simp [isAgg, run_underlying' hu]) h
 | none => rw [hti] at h; exact h.elim
 | int q => rw [hti] at h; exact key _ hti (by simp) false (fun w => by simp [isAgg, run_underlying' (und_int (ti_of hti (by simp)).1)]) h
 | bool => rw [hti] at h; exact key _ hti (by simp) false (fun w => by simp [isAgg, run_underlying' (und_bool (ti_of hti (by simp)).1)]) h
 | str => rw [hti] at h; exact key _ hti (by simp) false (fun w => by simp [isAgg, run_underlying' (und_str (ti_of hti (by simp)).1)]) h
 | slice e => rw [hti] at h; exact key _ hti (by simp) false (fun w => by simp [isAgg, run_underlying' (und_slice (ti_of hti (by simp)).1)]) h
 | ptr e => rw [hti] at h; exact key _ hti (by simp) false (fun w => by simp [isAgg, run_underlying' (und_ptr (ti_of hti (by simp)).1)]) h
 | map a e => rw [hti] at h; exact key _ hti (by simp) false (fun w => by simp [isAgg, run_underlying' (und_map (ti_of hti (by simp)).1)]) h
 | iface =>
  rw [hti] at h
  obtain ⟨ms, hu⟩ := und_iface (ti_of hti (by simp)).1
  exact key _ hti (by simp) false (fun w => by simp [isAgg, run_underlying' hu]) h
 | other =>
  rw [hti] at h
  refine key _ hti (by simp) false (fun w => ?_) h
  have ho := (ti_of hti (by simp)).1
  cases hu : P.underlying t with
  | none => simp [tiOf, hu] at ho
  | some d => cases d <;> simp only [tiOf, hu] at ho <;> (try split at ho) <;> (try (simp at ho; done)) <;> simp [isAgg, run_underlying' hu]
theorem owned_set {σ : Sg} {nid : Nat} {e : Ent} (g : Nat) : Owned (σ.set nid e) g -> e.blk = some g ∨ Owned σ g := by
 rintro ⟨i, e', hi, hg⟩
 rw [List.getElem?_set] at hi
 split at hi
 ·split at hi
  ·simp at hi; subst hi; exact .inl hg
  ·simp at hi
 ·exact .inr ⟨i, e', hi, hg⟩
theorem fresh_of {w : World} {X : Nat -> Prop} {σ : Sg} {h : Hp} (hI : Inv w X σ h) {n : Nat} (hf : h[n]? = some .fresh) : σ[n]? = some .fresh := by
 have hlt : n < h.length := (List.getElem?_eq_some_iff.1 hf).1
 have hs : n < σ.length := by rw [hI.len]; exact hlt
 have he : σ[n]? = some (σ[n]'hs) := List.getElem?_eq_getElem hs
 have := hI.ok n _ _ hf he
 rw [he]
 cases hσ : σ[n] <;> rw [hσ] at this <;> simp_all [BlkOK]
theorem alloc_step {w w' : World} {X : Nat -> Prop} {σ : Sg} {h : Hp} (hI : Inv w X σ h) {n : Nat} (hf : h[n]? = some .fresh) {e : Ent} (he : e.blk = some w.heap.size)
  (ho : w'.os = w.os) (ht : w'.tape = w.tape) (hout : w'.output = w.output) {o : Obj} (hw : w'.heap = w.heap.push o) : Step σ.length w σ w' (σ.set n e) where
 os := ho
 tape := ht
 output := hout
 size := by rw [hw]; simp
 frame g hg _ := by rw [hw, Array.getElem?_push, if_neg (by omega)]
 blks g hg hlt := by
  rcases owned_set g hg with h1 | h1
  ·rw [he] at h1; simp at h1; omega
  ·exact h1
 ents i e' hi he' hne := by
  rw [List.getElem?_set]
  by_cases hin : n = i
  ·subst hin; rw [fresh_of hI hf] at he'; simp at he'; exact absurd he'.symm hne
  ·rw [if_neg hin]; exact .inl he'
theorem alloc_inv {w w' : World} {X : Nat -> Prop} {σ : Sg} {h : Hp} (hI : Inv w X σ h) {n : Nat} (hf : h[n]? = some .fresh) {e : Ent} (he : e.blk = some w.heap.size)
  (ho : w'.os = w.os) (ht : w'.tape = w.tape) (hout : w'.output = w.output) {o : Obj} (hw : w'.heap = w.heap.push o) {b : Blk}
  (hb : BlkOK w' (Ex X (σ.set n e)) (σ.set n e) b e) : Inv w' X (σ.set n e) (h.set n b) := by
 have hS := alloc_step hI hf he ho ht hout hw
 have hσf := fresh_of hI hf
 have hnlt : n < σ.length := (List.getElem?_eq_some_iff.1 hσf).1
 refine ⟨by simp [hI.len], fun i b' e' hb' he' => ?_, fun i e' g he' hg => ?_, fun i j e1 e2 g h1 h2 g1 g2 => ?_, fun g hx ho' => ?_, fun g hx => ?_⟩
 ·rw [List.getElem?_set] at hb' he'
  by_cases hin : n = i
  ·subst hin
   have h2 : n < h.length := by rw [<- hI.len]; exact hnlt
   rw [if_pos rfl, if_pos h2] at hb'
   rw [if_pos rfl, if_pos hnlt] at he'
   simp at hb' he'
   subst hb'; subst he'; exact hb
  ·rw [if_neg hin] at hb' he'
   refine (hI.ok i b' e' hb' he').step hS (Nat.le_refl _) fun g hg => ?_
   rw [hw, Array.getElem?_push, if_neg (by have := hI.lt i e' g he' hg; omega)]
 ·rw [List.getElem?_set] at he'
  rw [hw, Array.size_push]
  by_cases hin : n = i
  ·subst hin
   rw [if_pos rfl, if_pos hnlt] at he'
   simp at he'; subst he'
   rw [he] at hg; simp at hg; omega
  ·rw [if_neg hin] at he'
   have := hI.lt i e' g he' hg; omega
 ·rw [List.getElem?_set] at h1 h2
  by_cases hi : n = i <;> by_cases hj : n = j
  ·omega
  ·subst hi
   rw [if_pos rfl, if_pos hnlt] at h1
   rw [if_neg hj] at h2
   simp at h1; subst h1
   rw [he] at g1; simp at g1; subst g1
   have := hI.lt j e2 _ h2 g2; omega
  ·subst hj
   rw [if_pos rfl, if_pos hnlt] at h2
   rw [if_neg hi] at h1
   simp at h2; subst h2
   rw [he] at g2; simp at g2; subst g2
   have := hI.lt i e1 _ h1 g1; omega
  ·rw [if_neg hi] at h1
   rw [if_neg hj] at h2
   exact hI.inj i j e1 e2 g h1 h2 g1 g2
 ·rcases owned_set g ho' with h1 | h1
  ·rw [he] at h1; simp at h1; subst h1; have := hI.xlt _ hx; omega
  ·exact hI.dis g hx h1
 ·have := hI.xlt g hx; rw [hw, Array.size_push]; omega
theorem write_step {w w' : World} {σ : Sg} {n : Nat} {e : Ent} {g : Nat} (he : σ[n]? = some e) (hg : e.blk = some g)
  (ho : w'.os = w.os) (ht : w'.tape = w.tape) (hout : w'.output = w.output) (hs : w'.heap.size = w.heap.size) (hw : ∀ k, k ≠ g -> w'.heap[k]? = w.heap[k]?) : Step σ.length w σ w' σ where
 os := ho
 tape := ht
 output := hout
 size := by omega
 frame k _ hk := hw k fun h => hk (h ▸ ⟨n, e, he, hg⟩)
 blks k hk _ := hk
 ents i e' _ he' _ := .inl he'
theorem write_inv {w w' : World} {X : Nat -> Prop} {σ : Sg} {h : Hp} (hI : Inv w X σ h) {n : Nat} {e : Ent} {g : Nat} (he : σ[n]? = some e) (hg : e.blk = some g)
  (ho : w'.os = w.os) (ht : w'.tape = w.tape) (hout : w'.output = w.output) (hs : w'.heap.size = w.heap.size) (hw : ∀ k, k ≠ g -> w'.heap[k]? = w.heap[k]?) {b : Blk}
  (hb : BlkOK w' (Ex X σ) σ b e) : Inv w' X σ (h.set n b) := by
 have hS := write_step he hg ho ht hout hs hw
 refine ⟨by simp [hI.len], fun i b' e' hb' he' => ?_, fun i e' k he' hk => by rw [hs]; exact hI.lt i e' k he' hk, hI.inj, hI.dis, fun k hx => by rw [hs]; exact hI.xlt k hx⟩
 rw [List.getElem?_set] at hb'
 by_cases hin : n = i
 ·subst hin
  rw [he] at he'; simp at he'; subst he'
  split at hb'
  ·split at hb'
   ·simp at hb'; subst hb'; exact hb
   ·simp at hb'
  ·rename_i hc; exact absurd rfl hc
 ·rw [if_neg hin] at hb'
  exact (hI.ok i b' e' hb' he').step hS (Nat.le_refl _) fun k hk => hw k fun hkg => hin (hI.inj n i e e' g he he' hg (hkg ▸ hk))
end
end Go.Sx

namespace Go.Sx
section
variable {P : Program} {T : Tab}
theorem partK_sound (hT : TabOK P T) {cs : List SV} {off : Nat} {t : TypeId} {k : SV -> Prop} (h : partK T cs off t k) :
  ∃ s n b, k s /\ (∀ w, (isAgg t).run P w = .ok b w) /\ (∀ w, (sizeOf t).run P w = .ok n w) /\
   (b = true -> s = .agg ((cs.drop off).take n) /\ off + n <= cs.length) /\ (b = false -> cs[off]? = some s) := by
 unfold partK at h
 obtain ⟨n, b, h, hb, hn⟩ := isAggK_sound hT h
 cases b with
 | true =>
  obtain ⟨h1, h⟩ := dropK_sound h
  obtain ⟨h2, h⟩ := takeK_sound h
  exact ⟨_, n, true, h, hb, hn, fun _ => ⟨rfl, by simp at h2; omega⟩, fun h => by simp at h⟩
 | false =>
  obtain ⟨s, h1, h⟩ := nthK_sound h
  exact ⟨s, n, false, h, hb, hn, fun h => by simp at h, fun _ => h1⟩
theorem load_sound {w : World} {E : Nat -> Prop} {σ : Sg} {cs : List SV} {off : Nat} {t : TypeId} {s : SV} {n : Nat} {b : Bool} {a : Addr} (val : Nat -> Value)
  (hb : (isAgg t).run P w = .ok b w) (hn : (sizeOf t).run P w = .ok n w) (h1 : b = true -> s = .agg ((cs.drop off).take n) /\ off + n <= cs.length) (h2 : b = false -> cs[off]? = some s)
  (hc : ∀ j s, cs[off + j]? = some s -> w.cell? (a.add j) = some (val j) /\ Rep w E σ s (val j) /\ (val j).oneCell' = true) :
  ∃ v, (loadVar t a).run P w = .ok v w /\ Rep w E σ s v := by
 unfold loadVar
 cases b with
 | true =>
  obtain ⟨rfl, hlen⟩ := h1 rfl
  have hget : ∀ j, j < n -> ∃ s, cs[off + j]? = some s := fun j hj => ⟨cs[off + j]'(by omega), List.getElem?_eq_getElem (by omega)⟩
  have hl := run_loadCells_list (P := P) (w := w) a ((List.range n).map val) (fun j v hv => by
   simp only [List.getElem?_map] at hv
   cases hr : (List.range n)[j]? with
   | none => rw [hr] at hv; simp at hv
   | some u =>
    rw [hr] at hv
    obtain ⟨hj, hu⟩ := List.getElem?_eq_some_iff.1 hr
    simp at hj hu
    subst hu
    simp at hv; subst hv
    obtain ⟨s, hs⟩ := hget j hj
    exact (hc j s hs).1)
  simp only [List.length_map, List.length_range] at hl
  refine ⟨.agg ((List.range n).map val).toArray, by simp [hb, hn, hl], .agg ?_ ?_ ?_⟩
  ·simp; omega
  ·intro i v hv
   simp only [List.getElem?_toArray, List.getElem?_map] at hv
   cases hr : (List.range n)[i]? with
   | none => rw [hr] at hv; simp at hv
   | some u =>
    rw [hr] at hv
    obtain ⟨hj, hu⟩ := List.getElem?_eq_some_iff.1 hr
    simp at hj hu
    subst hu
    simp at hv; subst hv
    obtain ⟨s, hs⟩ := hget i hj
    exact (hc i s hs).2.2
  ·intro i s v hs hv
   simp only [List.getElem?_toArray, List.getElem?_map] at hv
   cases hr : (List.range n)[i]? with
   | none => rw [hr] at hv; simp at hv
   | some u =>
    rw [hr] at hv
    obtain ⟨hj, hu⟩ := List.getElem?_eq_some_iff.1 hr
    simp at hj hu
    subst hu
    simp at hv; subst hv
    rw [List.getElem?_take, if_pos hj, List.getElem?_drop] at hs
    exact (hc i s hs).2.1
 | false =>
  have hs := h2 rfl
  have := hc 0 s (by simpa using hs)
  have ha : a.add 0 = a := by simp [Addr.add]
  rw [ha] at this
  exact ⟨val 0, by simp [hb, this.1, load, Sem.run], this.2.1⟩
theorem part_sound {w : World} {E : Nat -> Prop} {σ : Sg} {cs : List SV} {vs : Array Value} {off : Nat} {t : TypeId} {s : SV} {n : Nat} {b : Bool}
  (hb : (isAgg t).run P w = .ok b w) (hn : (sizeOf t).run P w = .ok n w) (h1 : b = true -> s = .agg ((cs.drop off).take n) /\ off + n <= cs.length) (h2 : b = false -> cs[off]? = some s)
  (hl : cs.length = vs.size) (hone : ∀ (i : Nat) (v : Value), vs[i]? = some v -> v.oneCell' = true) (hc : ∀ (i : Nat) (s : SV) (v : Value), cs[i]? = some s -> vs[i]? = some v -> Rep w E σ s v) :
  ∃ v, (part t vs off).run P w = .ok v w /\ Rep w E σ s v := by
 unfold part
 cases b with
 | true =>
  obtain ⟨rfl, hlen⟩ := h1 rfl
  refine ⟨.agg (vs.extract off (off + n)), by simp [hb, hn], .agg ?_ ?_ ?_⟩
  ·simp; omega
  ·intro i v hv
   rw [Array.getElem?_extract] at hv
   split at hv
   ·exact hone _ v hv
   ·simp at hv
  ·intro i s v hs hv
   rw [Array.getElem?_extract] at hv
   split at hv
   ·rw [List.getElem?_take] at hs
    split at hs
    ·rw [List.getElem?_drop] at hs
     exact hc _ s v hs hv
    ·simp at hs
   ·simp at hv
 | false =>
  have hs := h2 rfl
  have hlt : off < vs.size := by rw [<- hl]; exact (List.getElem?_eq_some_iff.1 hs).1
  have hv : vs[off]? = some (vs[off]'hlt) := Array.getElem?_eq_getElem hlt
  exact ⟨vs[off]'hlt, by simp [hb, hv], hc off s _ hs hv⟩
theorem eqGuard_plain {op : BinOp} {t : TypeId} {x y : Operand} {a b : Value} {w : World} (h : (∀ cs, a ≠ .agg cs) /\ a ≠ .nilIface) : (eqGuard op t x y a b).run P w = .ok () w := by
 cases op <;> (try rfl) <;> (cases a <;> first | rfl | exact absurd rfl h.2 | exact absurd rfl (h.1 _))
theorem eqK_sound (hT : TabOK P T) : ∀ (n : Nat) {t : TypeId} {x y : SV} {k : Bool -> Prop}, eqK T n t x y k ->
  ∃ r, k r /\ ∀ (w : World) (E : Nat -> Prop) (σ : Sg) (vx vy : Value) (d : Nat), n <= d -> Rep w E σ x vx -> Rep w E σ y vy -> (Op.equalIn d t vx vy).run P w = .ok r w := by
 intro n
 induction n with
 | zero => intro t x y k h; exact h.elim
 | succ n ih =>
  intro t x y k h
  replace h := tyK_sound hT (show tyK T t _ from h)
  generalize hti : (teOf P t).ti = ti at h
  cases ti with
  | int q0 =>
   have hu := und_int (ti_of hti (by simp)).1
   cases x <;> cases y <;> simp only [] at h <;> try exact h.elim
   rename_i q a q' b
   split at h
   ·rename_i hq
    subst hq
    refine ⟨_, h, fun w E σ vx vy d hd hx hy => ?_⟩
    obtain ⟨d, rfl⟩ : ∃ d', d = d' + 1 := ⟨d - 1, by omega⟩
    cases hx; cases hy
    rw [run_equalIn_int w d t q q0 a b hu]
    rfl
   ·exact h.elim
  | bool =>
   have hu := und_bool (ti_of hti (by simp)).1
   replace h : asB x fun a => asB y fun b => k (a == b) := by cases x <;> cases y <;> simpa using h
   obtain ⟨a, h, ha⟩ := asB_sound h
   obtain ⟨b, h, hb⟩ := asB_sound h
   refine ⟨_, h, fun w E σ vx vy d hd hx hy => ?_⟩
   obtain ⟨d, rfl⟩ : ∃ d', d = d' + 1 := ⟨d - 1, by omega⟩
   rw [ha _ _ _ _ hx, hb _ _ _ _ hy, run_equalIn_bool' w d t a b hu]
  | str =>
   have hu := und_str (ti_of hti (by simp)).1
   cases x <;> cases y <;> simp only [] at h <;> try exact h.elim
   refine ⟨_, h, fun w E σ vx vy d hd hx hy => ?_⟩
   obtain ⟨d, rfl⟩ : ∃ d', d = d' + 1 := ⟨d - 1, by omega⟩
   cases hx; cases hy
   rw [run_equalIn_string w d t _ _ hu, ByteArray.toList_mk, ByteArray.toList_mk]
   congr 1
   rw [Bool.eq_iff_iff]; simp
  | struct fs =>
   obtain ⟨hti', i, _, _, _, _, hfl⟩ := ti_of hti (by simp)
   obtain ⟨fields, hu, hfs, _⟩ := und_struct hti'
   cases x <;> cases y <;> simp only [] at h <;> try exact h.elim
   rename_i xs ys
   rw [hfl] at h
   cases hflat : flatOf P t with
   | false => rw [hflat] at h; exact h.elim
   | true =>
    rw [hflat] at h
    unfold flatOf at hflat
    rw [hu] at hflat
    simp only [Bool.and_eq_true, Bool.not_eq_true', List.all_eq_true] at hflat
    obtain ⟨⟨hst, hnames⟩, _⟩ := hflat
    have hf : P.fieldsOf t = fields := by simp [Program.fieldsOf, hu]
    -- the fields, one by one
    have key : ∀ (l : List Field) (k : Bool -> Prop), (∀ f ∈ l, (f.name != "_") = true) ->
      List.rec (motive := fun _ => (Bool -> Prop) -> Prop) (fun k => k true)
       (fun (f : Nat × TypeId × Nat) _ ih' k => partK T xs f.1 f.2.1 fun a => partK T ys f.1 f.2.1 fun b => eqK T n f.2.1 a b fun r => ih' fun r' => k (r && r'))
       (l.map fun f => (f.offset, f.type, P.cellsOf f.type)) k ->
      ∃ r, k r /\ ∀ (w : World) (E : Nat -> Prop) (σ : Sg) (vx vy : Array Value) (d : Nat), n <= d -> Rep w E σ (.agg xs) (.agg vx) -> Rep w E σ (.agg ys) (.agg vy) -> (Op.eqFields d vx vy l).run P w = .ok r w := by
     intro l
     induction l with
     | nil => intro k _ h; exact ⟨true, h, fun w E σ vx vy d _ _ _ => rfl⟩
     | cons f l ihl =>
      intro k hn h
      obtain ⟨sa, na, ba, h, a1, a2, a3, a4⟩ := partK_sound hT (show partK T xs f.offset f.type _ from h)
      obtain ⟨sb, nb, bb, h, b1, b2, b3, b4⟩ := partK_sound hT h
      obtain ⟨r, h, hr⟩ := ih h
      obtain ⟨r', h, hr'⟩ := ihl _ (fun g hg => hn g (by simp [hg])) h
      refine ⟨r && r', h, fun w E σ vx vy d hd hx hy => ?_⟩
      have hnm : (f.name ≠ "_") := by have := hn f (by simp); simpa using this
      cases hx with
      | agg hl1 ho1 hc1 =>
       cases hy with
       | agg hl2 ho2 hc2 =>
        obtain ⟨va, ra, rpa⟩ := part_sound (P := P) (w := w) (a1 w) (a2 w) a3 a4 hl1 ho1 hc1
        obtain ⟨vb, rb, rpb⟩ := part_sound (P := P) (w := w) (b1 w) (b2 w) b3 b4 hl2 ho2 hc2
        have e1 := hr w E σ va vb d hd rpa rpb
        have e2 := hr' w E σ vx vy d hd (.agg hl1 ho1 hc1) (.agg hl2 ho2 hc2)
        simp only [Op.eqFields, if_pos hnm, Sem.run_bind, ra, rb, e1, Result.andThen_ok]
        cases r
        ·simp
        ·simpa using e2
    obtain ⟨r, h, hr⟩ := key fields.toList k hnames (by rw [<- hfs]; exact h)
    refine ⟨r, h, fun w E σ vx vy d hd hx hy => ?_⟩
    obtain ⟨d, rfl⟩ : ∃ d', d = d' + 1 := ⟨d - 1, by omega⟩
    cases hx with
    | agg hl1 ho1 hc1 =>
     cases hy with
     | agg hl2 ho2 hc2 =>
      rw [run_equalIn_struct w d t _ _ (by rw [hf]; exact hu) hst, hf]
      exact hr w E σ _ _ d (by omega) (.agg hl1 ho1 hc1) (.agg hl2 ho2 hc2)
  | array _ _ => exact h.elim
  | slice _ => exact h.elim
  | ptr _ => exact h.elim
  | map _ _ => exact h.elim
  | iface => exact h.elim
  | other => exact h.elim
  | none => exact h.elim
theorem intK_sound {op : BinOp} {q : IntKind} {a b : Int} {k : SV -> Prop} (h : intK op q a b k) :
  ∃ s, k s /\ op ≠ .shl /\ op ≠ .shr /\ ∀ (w : World) (E : Nat -> Prop) (σ : Sg) (t : TypeId), ∃ v, (binOp op t (.int q a) (.int q b)).run P w = .ok v w /\ Rep w E σ s v := by
 cases op <;> simp only [intK] at h
 case quo => exact ⟨_, h.2, by simp, by simp, fun w E σ t => ⟨_, by simp [binOp, Op.intDiv, h.1], .int⟩⟩
 case rem => exact ⟨_, h.2, by simp, by simp, fun w E σ t => ⟨_, by simp [binOp, Op.intDiv, h.1], .int⟩⟩
 case eql => exact ⟨_, h, by simp, by simp, fun w E σ t => ⟨.bool (decide (a = b)), by simp [binOp, Op.intCmp]; rfl, .bool⟩⟩
 case neq => exact ⟨_, h, by simp, by simp, fun w E σ t => ⟨.bool (decide (¬ a = b)), by simp [binOp, Op.intCmp, bne]; rfl, .bool⟩⟩
 case add => exact ⟨_, h, by simp, by simp, fun w E σ t => ⟨_, by simp [binOp, Op.intArith], .int⟩⟩
 case sub => exact ⟨_, h, by simp, by simp, fun w E σ t => ⟨_, by simp [binOp, Op.intArith], .int⟩⟩
 case mul => exact ⟨_, h, by simp, by simp, fun w E σ t => ⟨_, by simp [binOp, Op.intArith], .int⟩⟩
 case and => exact ⟨_, h, by simp, by simp, fun w E σ t => ⟨_, by simp [binOp, Op.intBits], .int⟩⟩
 case or => exact ⟨_, h, by simp, by simp, fun w E σ t => ⟨_, by simp [binOp, Op.intBits], .int⟩⟩
 case xor => exact ⟨_, h, by simp, by simp, fun w E σ t => ⟨_, by simp [binOp, Op.intBits], .int⟩⟩
 case andNot => exact ⟨_, h, by simp, by simp, fun w E σ t => ⟨_, by simp [binOp, Op.intBits], .int⟩⟩
 case lss => exact ⟨_, h, by simp, by simp, fun w E σ t => ⟨_, by simp [binOp, Op.intCmp], .bool⟩⟩
 case leq => exact ⟨_, h, by simp, by simp, fun w E σ t => ⟨_, by simp [binOp, Op.intCmp], .bool⟩⟩
 case gtr => exact ⟨_, h, by simp, by simp, fun w E σ t => ⟨_, by simp [binOp, Op.intCmp], .bool⟩⟩
 case geq => exact ⟨_, h, by simp, by simp, fun w E σ t => ⟨_, by simp [binOp, Op.intCmp], .bool⟩⟩
theorem strK_sound {op : BinOp} {a b : List UInt8} {k : SV -> Prop} (h : strK op a b k) :
  ∃ s, k s /\ ∀ (w : World) (E : Nat -> Prop) (σ : Sg) (t : TypeId), ∃ v, (binOp op t (.string ⟨a.toArray⟩) (.string ⟨b.toArray⟩)).run P w = .ok v w /\ Rep w E σ s v := by
 have hsz : ∀ l : List UInt8, (⟨l.toArray⟩ : ByteArray).size = l.length := fun l => by simp [ByteArray.size]
 cases op <;> simp only [strK] at h
 case add =>
  refine ⟨_, h.2, fun w E σ t => ⟨.string (⟨a.toArray⟩ ++ ⟨b.toArray⟩), ?_, ?_⟩⟩
  ·simp only [binOp]
   exact run_string_add_sum w _ _ (by rw [hsz, hsz]; omega)
  ·have : (⟨a.toArray⟩ ++ ⟨b.toArray⟩ : ByteArray) = ⟨(a ++ b).toArray⟩ := by
    apply ByteArray.ext
    simp
   rw [this]; exact .str
 case eql => exact ⟨_, h, fun w E σ t => ⟨_, by simp [binOp, Op.stringOp]; rfl, by first | exact .bool | (rw [show (a == b) = decide (a = b) by rw [Bool.eq_iff_iff]; simp]; exact .bool)⟩⟩
 case neq => exact ⟨_, h, fun w E σ t => ⟨_, by simp [binOp, Op.stringOp]; rfl, by first | exact .bool | (rw [show (a == b) = decide (a = b) by rw [Bool.eq_iff_iff]; simp]; exact .bool)⟩⟩
 case lss => exact ⟨_, h, fun w E σ t => ⟨_, by simp [binOp, Op.stringOp], .bool⟩⟩
 case leq => exact ⟨_, h, fun w E σ t => ⟨_, by simp [binOp, Op.stringOp]; rfl, by first | exact .bool | (rw [show (a == b) = decide (a = b) by rw [Bool.eq_iff_iff]; simp]; exact .bool)⟩⟩
 case gtr => exact ⟨_, h, fun w E σ t => ⟨.bool (!(Op.bytesLess a b || a == b)), by simp [binOp, Op.stringOp], by rw [show (a == b) = decide (a = b) by rw [Bool.eq_iff_iff]; simp]; exact .bool⟩⟩
 case geq => exact ⟨_, h, fun w E σ t => ⟨_, by simp [binOp, Op.stringOp], .bool⟩⟩
theorem boolK_sound {op : BinOp} {a b : SV} {k : SV -> Prop} {t : TypeId} (hu : P.underlying t = some .bool) (h : boolK op a b k) :
  ∃ s, k s /\ ∀ (w : World) (E : Nat -> Prop) (σ : Sg) (va vb : Value), Rep w E σ a va -> Rep w E σ b vb -> ∃ v, (binOp op t va vb).run P w = .ok v w /\ Rep w E σ s v := by
 cases op <;> simp only [boolK] at h
 case eql =>
  obtain ⟨x, h, hx⟩ := asB_sound h
  obtain ⟨y, h, hy⟩ := asB_sound h
  refine ⟨_, h, fun w E σ va vb ra rb => ⟨.bool (x == y), ?_, .bool⟩⟩
  rw [hx _ _ _ _ ra, hy _ _ _ _ rb]
  simp only [binOp]
  simp [Op.equal, Op.maxDepth, run_equalIn_bool' w 9999 t x y hu]
 case neq =>
  obtain ⟨x, h, hx⟩ := asB_sound h
  obtain ⟨y, h, hy⟩ := asB_sound h
  refine ⟨_, h, fun w E σ va vb ra rb => ⟨.bool (!(x == y)), ?_, .bool⟩⟩
  rw [hx _ _ _ _ ra, hy _ _ _ _ rb]
  simp only [binOp]
  simp [Op.equal, Op.maxDepth, run_equalIn_bool' w 9999 t x y hu]
theorem binK_sound (hT : TabOK P T) {op : BinOp} {t : TypeId} {x y : SV} {k : SV -> Prop} (h : binK T op t x y k) :
  ∃ s, k s /\ ∀ (w : World) (E : Nat -> Prop) (σ : Sg) (vx vy : Value) (ox oy : Operand), Rep w E σ x vx -> Rep w E σ y vy ->
   ∃ v, ((do eqGuard op t ox oy vx vy; binOp op t vx vy) : Sem Value).run P w = .ok v w /\ Rep w E σ s v := by
 -- a value that is neither a struct nor a nil interface needs no guard
 have plain : ∀ {s : SV}, k s -> (∀ (w : World) (E : Nat -> Prop) (σ : Sg) (vx : Value), Rep w E σ x vx -> (∀ cs, vx ≠ .agg cs) /\ vx ≠ .nilIface) ->
   (∀ (w : World) (E : Nat -> Prop) (σ : Sg) (vx vy : Value), Rep w E σ x vx -> Rep w E σ y vy -> ∃ v, (binOp op t vx vy).run P w = .ok v w /\ Rep w E σ s v) ->
   ∃ s, k s /\ ∀ (w : World) (E : Nat -> Prop) (σ : Sg) (vx vy : Value) (ox oy : Operand), Rep w E σ x vx -> Rep w E σ y vy ->
    ∃ v, ((do eqGuard op t ox oy vx vy; binOp op t vx vy) : Sem Value).run P w = .ok v w /\ Rep w E σ s v := by
  intro s hk hn hb
  refine ⟨s, hk, fun w E σ vx vy ox oy rx ry => ?_⟩
  obtain ⟨v, hv, hr⟩ := hb w E σ vx vy rx ry
  exact ⟨v, by simp only [Sem.run_bind, eqGuard_plain (hn w E σ vx rx), Result.andThen_ok]; exact hv, hr⟩
 have tyb : ∀ {R : Prop}, (tyK T t fun te => match te.ti with | .bool => R | _ => False) -> P.underlying t = some .bool /\ R := by
  intro R h
  replace h := tyK_sound hT h
  generalize hti : (teOf P t).ti = ti at h
  cases ti <;> first | exact h.elim | exact ⟨und_bool (ti_of hti (by simp)).1, h⟩
 have ptrs : ∀ {x' : SV}, (tyK T t fun te => match (generalizing := false) te.ti, op with | .ptr _, .eql => k .ff | .ptr _, .neq => k .tt | _, _ => False) -> (∀ (w : World) (E : Nat -> Prop) (σ : Sg) (vx : Value), Rep w E σ x' vx -> ∃ a : Addr, vx = .pointer (some a)) ->
   ∃ s, k s /\ ∀ (w : World) (E : Nat -> Prop) (σ : Sg) (vx vy : Value) (ox oy : Operand), Rep w E σ x' vx -> Rep w E σ .nilp vy ->
    ∃ v, ((do eqGuard op t ox oy vx vy; binOp op t vx vy) : Sem Value).run P w = .ok v w /\ Rep w E σ s v := by
  intro x' h hx
  replace h := tyK_sound hT h
  generalize hti : (teOf P t).ti = ti at h
  cases ti with
  | ptr e =>
   have hu := und_ptr (ti_of hti (by simp)).1
   have hp : P.underlying t = some (.pointer (P.pointee t)) := by simp [Program.pointee, hu]
   have key : ∀ s, k s -> (∀ (w : World) (E : Nat -> Prop) (σ : Sg) (a : Addr), ∃ v, (binOp op t (.pointer (some a)) (.pointer none)).run P w = .ok v w /\ Rep w E σ s v) -> ∃ s, k s /\ ∀ (w : World) (E : Nat -> Prop) (σ : Sg) (vx vy : Value) (ox oy : Operand), Rep w E σ x' vx -> Rep w E σ .nilp vy ->
     ∃ v, ((do eqGuard op t ox oy vx vy; binOp op t vx vy) : Sem Value).run P w = .ok v w /\ Rep w E σ s v := by
    intro s hk hb
    refine ⟨s, hk, fun w E σ vx vy ox oy rx ry => ?_⟩
    obtain ⟨a, rfl⟩ := hx w E σ vx rx
    cases ry
    obtain ⟨v, hv, hr⟩ := hb w E σ a
    exact ⟨v, by simp only [Sem.run_bind, eqGuard_plain (show (∀ cs, Value.pointer (some a) ≠ .agg cs) /\ Value.pointer (some a) ≠ .nilIface by simp), Result.andThen_ok]; exact hv, hr⟩
   cases op with
   | eql => exact key .ff h fun w E σ a => ⟨.bool false, by rw [run_eql_pointer_nil w t (some a) hp]; rfl, .ff⟩
   | neq => exact key .tt h fun w E σ a => ⟨.bool true, by rw [run_neq_pointer_nil w t (some a) hp]; rfl, .tt⟩
   | _ => exact h.elim
  | _ => exact h.elim
 cases x with
 | int q a =>
  cases y with
  | int q' b =>
   have np : ∀ (w : World) (E : Nat -> Prop) (σ : Sg) (vx : Value), Rep w E σ (.int q a) vx -> (∀ cs, vx ≠ .agg cs) /\ vx ≠ .nilIface := fun w E σ vx r => by cases r; simp
   by_cases h1 : op = .shl
   ·subst h1
    exact plain h.2 np fun w E σ vx vy rx ry => by
     cases rx; cases ry
     exact ⟨_, by simp [binOp, Op.shift, Int.not_lt.2 h.1], .int⟩
   ·by_cases h2 : op = .shr
    ·subst h2
     exact plain h.2 np fun w E σ vx vy rx ry => by
      cases rx; cases ry
      exact ⟨_, by simp [binOp, Op.shift, Int.not_lt.2 h.1], .int⟩
    ·replace h : if q = q' then intK op q a b k else False := by
      cases op <;> first | exact absurd rfl h1 | exact absurd rfl h2 | exact h
     split at h
     ·rename_i hq
      subst hq
      obtain ⟨s, hk, _, _, hb⟩ := intK_sound (P := P) h
      exact plain hk np fun w E σ vx vy rx ry => by
       cases rx; cases ry
       exact hb w E σ t
     ·exact h.elim
  | _ => exact h.elim
 | str a =>
  cases y with
  | str b =>
   obtain ⟨s, hk, hb⟩ := strK_sound (P := P) h
   exact plain hk (fun w E σ vx r => by cases r; simp) fun w E σ vx vy rx ry => by
    cases rx; cases ry
    exact hb w E σ t
  | _ => exact h.elim
 | tt =>
  obtain ⟨hu, h⟩ := tyb h
  obtain ⟨s, hk, hb⟩ := boolK_sound hu h
  exact plain hk (fun w E σ vx r => by cases r; simp) fun w E σ vx vy rx ry => hb w E σ vx vy rx ry
 | ff =>
  obtain ⟨hu, h⟩ := tyb h
  obtain ⟨s, hk, hb⟩ := boolK_sound hu h
  exact plain hk (fun w E σ vx r => by cases r; simp) fun w E σ vx vy rx ry => hb w E σ vx vy rx ry
 | bool b =>
  obtain ⟨hu, h⟩ := tyb h
  obtain ⟨s, hk, hb⟩ := boolK_sound hu h
  exact plain hk (fun w E σ vx r => by cases r; simp) fun w E σ vx vy rx ry => hb w E σ vx vy rx ry
 | agg xs =>
  cases y with
  | agg ys =>
   have guardOK : ∀ {r : Bool -> Prop}, eqK T 8 t (.agg xs) (.agg ys) r -> P.eqGuardType P.depth t = false := by
    intro r hr
    replace hr := tyK_sound hT (show tyK T t _ from hr)
    generalize hti : (teOf P t).ti = ti at hr
    cases ti with
    | struct fs =>
     obtain ⟨hti', i, _, _, _, _, hfl⟩ := ti_of hti (by simp)
     obtain ⟨fields, hu, _, _⟩ := und_struct hti'
     rw [hfl] at hr
     cases hflat : flatOf P t with
     | false => rw [hflat] at hr; exact hr.elim
     | true =>
      unfold flatOf at hflat
      rw [hu] at hflat
      simp only [Bool.and_eq_true, Bool.not_eq_true'] at hflat
      exact hflat.2
    | bool => exact hr.elim
    | _ => exact hr.elim
   cases op <;> simp only [binK] at h
   case eql =>
    obtain ⟨r, hk, he⟩ := eqK_sound hT 8 h
    have hg := guardOK h
    refine ⟨_, hk, fun w E σ vx vy ox oy rx ry => ?_⟩
    have e := he w E σ vx vy 10000 (by omega) rx ry
    cases rx; cases ry
    exact ⟨_, by simp only [Sem.run_bind, run_eqGuard_agg w .eql t ox oy _ _ hg, Result.andThen_ok, run_eql_struct, e], .bool⟩
   case neq =>
    obtain ⟨r, hk, he⟩ := eqK_sound hT 8 h
    have hg := guardOK h
    refine ⟨_, hk, fun w E σ vx vy ox oy rx ry => ?_⟩
    have e := he w E σ vx vy 10000 (by omega) rx ry
    cases rx; cases ry
    exact ⟨_, by simp only [Sem.run_bind, run_eqGuard_agg w .neq t ox oy _ _ hg, Result.andThen_ok, run_neq_struct, e], .bool⟩
  | _ => exact h.elim
 | nilp =>
  cases y with
  | nilp =>
   replace h := tyK_sound hT (show tyK T t _ from h)
   generalize hti : (teOf P t).ti = ti at h
   cases ti with
   | ptr e =>
    have hu := und_ptr (ti_of hti (by simp)).1
    have hp : P.underlying t = some (.pointer (P.pointee t)) := by simp [Program.pointee, hu]
    have np : ∀ (w : World) (E : Nat -> Prop) (σ : Sg) (vx : Value), Rep w E σ .nilp vx -> (∀ cs, vx ≠ .agg cs) /\ vx ≠ .nilIface := fun w E σ vx r => by cases r; simp
    cases op with
    | eql =>
     refine plain h np fun w E σ vx vy rx ry => ?_
     cases rx; cases ry
     exact ⟨.bool true, by rw [run_eql_pointer_nil w t none hp]; rfl, .tt⟩
    | neq =>
     refine plain h np fun w E σ vx vy rx ry => ?_
     cases rx; cases ry
     exact ⟨.bool false, by rw [run_neq_pointer_nil w t none hp]; rfl, .ff⟩
    | _ => exact h.elim
   | _ => exact h.elim
  | _ => exact h.elim
 | ptr b o =>
  cases y with
  | nilp => exact ptrs h fun w E σ vx r => by cases r <;> exact ⟨_, rfl⟩
  | _ => exact h.elim
 | ep b i f =>
  cases y with
  | nilp => exact ptrs h fun w E σ vx r => by cases r <;> exact ⟨_, rfl⟩
  | _ => exact h.elim
 | rp z es i f =>
  cases y with
  | nilp => exact ptrs h fun w E σ vx r => by cases r; exact ⟨_, rfl⟩
  | _ => exact h.elim
 | rs z es =>
  cases y with
  | nils =>
   replace h := tyK_sound hT (show tyK T t _ from h)
   generalize hti : (teOf P t).ti = ti at h
   cases ti with
   | slice e =>
    have hu := und_slice (ti_of hti (by simp)).1
    cases op with
    | eql =>
     refine plain h (fun w E σ vx r => by cases r <;> simp) fun w E σ vx vy rx ry => ?_
     cases ry
     cases rx with
     | @rs0 _ _ a c _ => exact ⟨_, Lib.run_eql_slice_nil w t e a 0 c 0 0 hu, .qb fun _ => rfl⟩
     | @rs _ _ _ ad c _ _ _ _ _ _ _ _ _ => exact ⟨_, Lib.run_eql_slice_nil w t e (some ad) _ c 0 0 hu, .qb fun h => by simp at h⟩
    | _ => exact h.elim
   | _ => exact h.elim
  | _ => exact h.elim
 | _ => cases y <;> exact h.elim
theorem unK_sound {op : UnOp} {x : SV} {k : SV -> Prop} (h : unK op x k) :
  ∃ s, k s /\ ∀ (w : World) (E : Nat -> Prop) (σ : Sg) (vx : Value), Rep w E σ x vx -> ∃ v, (Op.unary op vx).run P w = .ok v w /\ Rep w E σ s v := by
 cases op <;> cases x <;> simp only [unK] at h
 case neg.int q n => exact ⟨_, h, fun w E σ vx r => by cases r; exact ⟨_, by simp [Op.unary, Op.intArith], .int⟩⟩
 case xor.int q n => exact ⟨_, h, fun w E σ vx r => by cases r; exact ⟨_, by simp [Op.unary, Op.intBits], .int⟩⟩
 case not.tt => exact ⟨_, h, fun w E σ vx r => by cases r; exact ⟨.bool false, by simp [Op.unary], .ff⟩⟩
 case not.ff => exact ⟨_, h, fun w E σ vx r => by cases r; exact ⟨.bool true, by simp [Op.unary], .tt⟩⟩
 case not.bool b => exact ⟨_, h, fun w E σ vx r => by cases r; exact ⟨.bool (!b), by simp [Op.unary], .bool⟩⟩
end
end Go.Sx

namespace Go.Sx
section
variable {P : Program} {T : Tab}
def OpRes (P : Program) (m : Sem Next) (w : World) (X : Nat -> Prop) (σ : Sg) (h2 : Hp) (s : SV) (ws : Ws) : Prop :=
 DoneS P m w fun v w' => ∃ σ', Rep w' (Ex X σ') σ' s v /\ Inv w' X σ' (upd ws h2) /\ Step σ.length w σ w' σ' /\ σ'.length = σ.length
structure OpOK (P : Program) (F : Fr) (h : Hp) (op : Op) (s : SV) (ws : Ws) (rds : List Nat) : Prop where
 ok : ∀ (w : World) (X : Nat -> Prop) (σ : Sg) (h2 : Hp) (ρ : Operand -> Value) (d : Option Tmp) (ty : TypeId) (pos : String) (after : Array Edge) (guard : Option (Nat × Bool)),
  Inv w X σ h2 -> (∀ x ∈ op.operands.toList, OpnRep w (Ex X σ) σ F ρ x) -> (∀ i ∈ rds, h2[i]? = h[i]?) -> OpRes P (execOp ρ ⟨d, op, ty, pos, after, guard⟩) w X σ h2 s ws
 sub : ∀ p ∈ ws, p.1 ∈ rds
theorem OpRes.pure {m : Sem Next} {w : World} {X : Nat -> Prop} {σ : Sg} {h2 : Hp} {s : SV} {v : Value} (hm : m.run P w = .ok (.value v) w) (hI : Inv w X σ h2) (hr : Rep w (Ex X σ) σ s v) : OpRes P m w X σ h2 s [] := by
 unfold OpRes DoneS
 rw [hm]
 exact ⟨σ, hr, hI, .refl _ _ _, rfl⟩
theorem OpOK.pure {F : Fr} {h : Hp} {op : Op} {s : SV} {rds : List Nat}
  (hx : ∀ (w : World) (E : Nat -> Prop) (σ : Sg) (ρ : Operand -> Value) (d : Option Tmp) (ty : TypeId) (pos : String) (after : Array Edge) (guard : Option (Nat × Bool)),
   (∀ x ∈ op.operands.toList, OpnRep w E σ F ρ x) -> ∃ v, (execOp ρ ⟨d, op, ty, pos, after, guard⟩).run P w = .ok (.value v) w /\ Rep w E σ s v) : OpOK P F h op s [] rds :=
 ⟨fun w X σ h2 ρ d ty pos after guard hI ho _ => by
  obtain ⟨v, hv, hr⟩ := hx w (Ex X σ) σ ρ d ty pos after guard ho
  exact .pure hv hI hr, by simp⟩
theorem rep_ofV' {w : World} {E : Nat -> Prop} {σ : Sg} (v : Value) : Rep w E σ (ofV v) v := by
 unfold ofV
 split
 ·exact .int
 ·exact .tt
 ·exact .ff
 ·exact rep_str _
 ·exact .nilp
 ·exact .nils
 ·exact .nilm
 ·exact .nili
 ·exact .any
theorem zeroK_sound {i : TypeInfo} {k : List SV -> Prop} (h : zeroK (zeroOf i) k) :
  k (zeroOf i) /\ ∃ z, i.zero = some z /\ zeroOf i = z.cells.toList.map ofV /\ (∀ v ∈ z.cells.toList, v.oneCell' = true) /\ z.cells.size = i.size := by
 have hk : k (zeroOf i) /\ zeroOf i ≠ [.bot] := by
  unfold zeroK at h
  split at h
  ·rename_i he; rw [he]; exact ⟨h, by simp⟩
  ·rename_i x xs he
   split at h <;> first | exact h.elim | (rw [he]; exact ⟨h, by simp⟩)
 refine ⟨hk.1, ?_⟩
 have hn := hk.2
 cases hz : i.zero with
 | none => exact absurd (by simp [zeroOf, hz]) hn
 | some z =>
  cases hall : (z.cells.toList.all (·.oneCell') && z.cells.size == i.size) with
  | false => exact absurd (by simp only [zeroOf, hz, hall]; rfl) hn
  | true =>
   have h2 := hall
   simp only [Bool.and_eq_true, List.all_eq_true, beq_iff_eq] at h2
   exact ⟨z, rfl, by simp only [zeroOf, hz, hall, if_true], h2.1, h2.2⟩
theorem zero_rep {w : World} {E : Nat -> Prop} {σ : Sg} {z : Value} (hone : ∀ v ∈ z.cells.toList, v.oneCell' = true) :
  (z.cells.toList.map ofV).length = z.cells.size /\ ∀ (i : Nat) (s : SV) (v : Value), (z.cells.toList.map ofV)[i]? = some s -> z.cells[i]? = some v -> Rep w E σ s v /\ v.oneCell' = true := by
 refine ⟨by simp, fun i s v hs hv => ?_⟩
 rw [List.getElem?_map, Array.getElem?_toList, hv] at hs
 simp at hs
 subst hs
 exact ⟨rep_ofV' v, hone v (by simpa using Array.mem_of_getElem? hv)⟩
theorem upd_one (h : Hp) (i : Nat) (b : Blk) : upd [(i, b)] h = h.set i b := rfl
theorem new_fix {w : World} {X : Nat -> Prop} {σ : Sg} {h2 : Hp} (hI : Inv w X σ h2) {nid : Nat} (hf : h2[nid]? = some .fresh) {t : TypeId} {cs : List SV} {vs : Array Value}
  (hl : cs.length = vs.size) (hc : ∀ (i : Nat) (s : SV) (v : Value), cs[i]? = some s -> vs[i]? = some v -> Rep w (Ex X σ) σ s v /\ v.oneCell' = true) :
  ∃ σ', Rep (w.alloc (.cells vs t)) (Ex X σ') σ' (.ptr nid 0) (.pointer (some ⟨w.heap.size, 0, none⟩)) /\ Inv (w.alloc (.cells vs t)) X σ' (upd [(nid, .fix t cs)] h2) /\ Step σ.length w σ (w.alloc (.cells vs t)) σ' /\ σ'.length = σ.length := by
 have hS := alloc_step (w' := w.alloc (.cells vs t)) hI hf (e := .fix w.heap.size) rfl rfl rfl rfl rfl
 have hσ := fresh_of hI hf
 have hlt : nid < σ.length := (List.getElem?_eq_some_iff.1 hσ).1
 refine ⟨σ.set nid (.fix w.heap.size), .ptr (by simp [hlt]), ?_, hS, by simp⟩
 rw [upd_one]
 refine alloc_inv (w' := w.alloc (.cells vs t)) hI hf (e := .fix w.heap.size) (b := .fix t cs) rfl rfl rfl rfl rfl ⟨vs, heap_alloc_new w _, hl, fun i s v hs hv => ⟨(hc i s v hs hv).1.step hS (Nat.le_refl _), (hc i s v hs hv).2⟩⟩
theorem new_row {w : World} {X : Nat -> Prop} {σ : Sg} {h2 : Hp} (hI : Inv w X σ h2) {nid : Nat} (hf : h2[nid]? = some .fresh) {t : TypeId} {sz cap : Nat} {es : List (List SV)} {vs : Array Value}
  (hcap : es.length <= cap) (hmax : cap <= maxLen) (hl : vs.size = cap * sz)
  (hc : ∀ (i : Nat) (e : List SV), es[i]? = some e -> e.length = sz /\ ∀ (j : Nat) (s : SV), e[j]? = some s -> ∃ v, vs[i * sz + j]? = some v /\ Rep w (Ex X σ) [] s v /\ v.oneCell' = true) :
  ∃ σ', Rep (w.alloc (.cells vs t)) (Ex X σ') σ' (.sl nid) (.slice (some ⟨w.heap.size, 0, none⟩) es.length cap) /\ Inv (w.alloc (.cells vs t)) X σ' (upd [(nid, .row t sz es)] h2) /\ Step σ.length w σ (w.alloc (.cells vs t)) σ' /\ σ'.length = σ.length := by
 have hS := alloc_step (w' := w.alloc (.cells vs t)) hI hf (e := .row w.heap.size sz es.length cap) rfl rfl rfl rfl rfl
 have hσ := fresh_of hI hf
 have hlt : nid < σ.length := (List.getElem?_eq_some_iff.1 hσ).1
 refine ⟨σ.set nid (.row w.heap.size sz es.length cap), .sl (sz := sz) (by simp [hlt]), ?_, hS, by simp⟩
 rw [upd_one]
 refine alloc_inv (w' := w.alloc (.cells vs t)) hI hf (e := .row w.heap.size sz es.length cap) (b := .row t sz es) rfl rfl rfl rfl rfl ⟨rfl, rfl, hcap, hmax, vs, .of (heap_alloc_new w _), hl, fun i e he => ⟨(hc i e he).1, fun j s hs => ?_⟩⟩
 obtain ⟨v, a, b, c⟩ := (hc i e he).2 j s hs
 exact ⟨v, a, b.step0 hS, c⟩
theorem fill_one (cells : Array Value) (off : Nat) (v : Value) (hle : off + v.cells.size <= cells.size) :
  (v.cells.zipIdx.foldl (fun cs (x : Value × Nat) => cs.setIfInBounds (off + x.2) x.1) cells).size = cells.size /\
  ∀ k, (v.cells.zipIdx.foldl (fun cs (x : Value × Nat) => cs.setIfInBounds (off + x.2) x.1) cells)[k]? = if off <= k /\ k < off + v.cells.size then v.cells[k - off]? else cells[k]? := by
 have h := Go.Great.foldl_set off v.cells.toList 0 cells
 rw [<- Array.foldl_toList, Array.toList_zipIdx]
 refine ⟨h.1, fun k => ?_⟩
 rw [h.2 k]
 simp only [Nat.add_zero, Array.length_toList, Array.getElem?_toList]
 by_cases hk : off <= k /\ k < off + v.cells.size
 ·rw [if_pos ⟨hk.1, hk.2, by omega⟩, if_pos hk]
 ·rw [if_neg (fun h => hk ⟨h.1, h.2.1⟩), if_neg hk]
theorem put_get {α : Type} (cs : List α) (off : Nat) (c : List α) (hle : off + c.length <= cs.length) (k : Nat) :
  (cs.take off ++ (c ++ cs.drop (off + c.length)))[k]? = if off <= k /\ k < off + c.length then c[k - off]? else cs[k]? := by
 have ht : (cs.take off).length = off := by simp; omega
 by_cases h1 : k < off
 ·rw [List.getElem?_append_left (by omega), if_neg (by omega), List.getElem?_take, if_pos h1]
 ·rw [List.getElem?_append_right (by omega), ht]
  by_cases h2 : k < off + c.length
  ·rw [List.getElem?_append_left (by omega), if_pos ⟨by omega, h2⟩]
  ·rw [List.getElem?_append_right (by omega), if_neg (by omega), List.getElem?_drop]
   congr 1; omega
theorem put_len {α : Type} (cs : List α) (off : Nat) (c : List α) (hle : off + c.length <= cs.length) : (cs.take off ++ (c ++ cs.drop (off + c.length))).length = cs.length := by
 simp; omega
theorem buildK_sound {F : Fr} {fs : List (Nat × TypeId × Nat)} (ps : List (Nat × Operand)) : ∀ {cs : List SV} {k : List SV -> Prop}, buildK F fs ps cs k ->
  ∃ cs', k cs' /\ ∀ (w : World) (E : Nat -> Prop) (σ : Sg) (ρ : Operand -> Value) (vs : Array Value), (∀ p ∈ ps, OpnRep w E σ F ρ p.2) ->
   (cs.length = vs.size /\ ∀ (i : Nat) (s : SV) (v : Value), cs[i]? = some s -> vs[i]? = some v -> Rep w E σ s v /\ v.oneCell' = true) ->
   ∃ vs', Instr.fill (fun i => (fs[i]?).map fun q => (q.1, q.2.2)) vs (ps.map fun p => (p.1, ρ p.2)) = some vs' /\
    cs'.length = vs'.size /\ ∀ (i : Nat) (s : SV) (v : Value), cs'[i]? = some s -> vs'[i]? = some v -> Rep w E σ s v /\ v.oneCell' = true := by
 induction ps with
 | nil => intro cs k h; exact ⟨cs, h, fun w E σ ρ vs _ hc => ⟨vs, rfl, hc.1, hc.2⟩⟩
 | cons p ps ih =>
  intro cs k h
  obtain ⟨q, hq, h⟩ := nthK_sound (show nthK fs p.1 _ from h)
  obtain ⟨s, h, hs⟩ := evK_sound h
  -- the cells of s
  have hcells : ∃ c : List SV, (eqNK c.length q.2.2 (putK cs q.1 c fun cs' => buildK F fs ps cs' k)) /\
    ∀ (w : World) (E : Nat -> Prop) (σ : Sg) (v : Value), Rep w E σ s v -> c.length = v.cells.size /\ ∀ (i : Nat) (s : SV) (u : Value), c[i]? = some s -> v.cells[i]? = some u -> Rep w E σ s u /\ u.oneCell' = true := by
   revert h
   generalize hG : (fun c : List SV => eqNK c.length q.2.2 (putK cs q.1 c fun cs' => buildK F fs ps cs' k)) = G
   intro h
   replace h : cellsK s G := by rw [<- hG]; exact h
   have : ∃ c, G c /\ ∀ (w : World) (E : Nat -> Prop) (σ : Sg) (v : Value) (G' : List SV -> Prop), G' c -> Rep w E σ s v -> cellsK s G' := by
    cases s <;> simp only [cellsK] at h ⊢ <;> first | exact h.elim | exact ⟨_, h, fun _ _ _ _ _ h' _ => h'⟩
   obtain ⟨c, hGc, hc⟩ := this
   refine ⟨c, by rw [<- hG] at hGc; exact hGc, fun w E σ v hr => ?_⟩
   obtain ⟨c', hc', hl, hcr⟩ := oneCell_of_cellsK hr (hc w E σ v (· = c) rfl hr)
   subst hc'
   exact ⟨hl, hcr⟩
  obtain ⟨c, h, hc⟩ := hcells
  obtain ⟨hlen, h⟩ := eqNK_sound h
  obtain ⟨hle, h⟩ := putK_sound h
  obtain ⟨cs', hk, hih⟩ := ih h
  refine ⟨cs', hk, fun w E σ ρ vs ho hv => ?_⟩
  have hrep := hs w E σ ρ (ho p (by simp))
  obtain ⟨hcl, hcr⟩ := hc w E σ _ hrep
  have hf := fill_one vs q.1 (ρ p.2) (by rw [<- hcl, <- hv.1]; exact hle)
  obtain ⟨vs', hfill, r1, r2⟩ := hih w E σ ρ ((ρ p.2).cells.zipIdx.foldl (fun cs (x : Value × Nat) => cs.setIfInBounds (q.1 + x.2) x.1) vs) (fun p' hp' => ho p' (by simp [hp']))
   ⟨by rw [hf.1, put_len _ _ _ hle, hv.1], fun i s v hs' hv' => by
    rw [put_get _ _ _ hle] at hs'
    rw [hf.2, <- hcl] at hv'
    split at hs'
    ·rename_i hin
     rw [if_pos hin] at hv'
     exact hcr _ s v hs' hv'
    ·rename_i hin
     rw [if_neg hin] at hv'
     exact hv.2 i s v hs' hv'⟩
  refine ⟨vs', ?_, r1, r2⟩
  simp only [List.map_cons, Instr.fill, hq, Option.map_some]
  rw [if_neg (by rw [<- hcl, hlen, <- hv.1]; rw [hlen] at hle; simp; omega)]
  exact hfill
theorem cellsK_all {s : SV} {G : List SV -> Prop} (h : cellsK s G) : ∃ c : List SV, G c /\
  ∀ (w : World) (E : Nat -> Prop) (σ : Sg) (v : Value), Rep w E σ s v -> c.length = v.cells.size /\ ∀ (i : Nat) (s : SV) (u : Value), c[i]? = some s -> v.cells[i]? = some u -> Rep w E σ s u /\ u.oneCell' = true := by
 have : ∃ c, G c /\ ∀ (w : World) (E : Nat -> Prop) (σ : Sg) (v : Value) (G' : List SV -> Prop), G' c -> Rep w E σ s v -> cellsK s G' := by
  cases s <;> simp only [cellsK] at h ⊢ <;> first | exact h.elim | exact ⟨_, h, fun _ _ _ _ _ h' _ => h'⟩
 obtain ⟨c, hGc, hc⟩ := this
 refine ⟨c, hGc, fun w E σ v hr => ?_⟩
 obtain ⟨c', hc', hl, hcr⟩ := oneCell_of_cellsK hr (hc w E σ v (· = c) rfl hr)
 subst hc'
 exact ⟨hl, hcr⟩
def RowOK (w : World) (E : Nat -> Prop) (sz : Nat) (es : List (List SV)) (vs : Array Value) : Prop :=
 ∀ (i : Nat) (e : List SV), es[i]? = some e -> e.length = sz /\ ∀ (j : Nat) (s : SV), e[j]? = some s -> ∃ v, vs[i * sz + j]? = some v /\ Rep w E [] s v /\ v.oneCell' = true
theorem elemsK_sound {F : Fr} {sz : Nat} (ps : List (Nat × Operand)) : ∀ {es : List (List SV)} {k : List (List SV) -> Prop}, elemsK F sz ps es k ->
  ∃ es', k es' /\ es'.length = es.length /\ ∀ (w : World) (E : Nat -> Prop) (σ : Sg) (ρ : Operand -> Value) (vs : Array Value), (∀ p ∈ ps, OpnRep w E σ F ρ p.2) ->
   vs.size = es.length * sz -> RowOK w E sz es vs ->
   ∃ vs', Instr.fill (fun i => some (i * sz, sz)) vs (ps.map fun p => (p.1, ρ p.2)) = some vs' /\ vs'.size = es'.length * sz /\ RowOK w E sz es' vs' := by
 induction ps with
 | nil => intro es k h; exact ⟨es, h, rfl, fun w E σ ρ vs _ hs hc => ⟨vs, rfl, hs, hc⟩⟩
 | cons p ps ih =>
  intro es k h
  obtain ⟨s, h, hs⟩ := evK_sound (show evK F p.2 _ from h)
  obtain ⟨c, h, hc⟩ := cellsK_all h
  obtain ⟨hlen, h⟩ := eqNK_sound h
  obtain ⟨h, hpure⟩ := puresK_sound h
  obtain ⟨hle, h⟩ := setK_sound h
  obtain ⟨es', hk, hl', hih⟩ := ih h
  refine ⟨es', hk, by rw [hl']; simp, fun w E σ ρ vs ho hvs hrow => ?_⟩
  have hrep := hs w E σ ρ (ho p (by simp))
  obtain ⟨hcl, hcr⟩ := hc w E σ _ hrep
  have hroom : p.1 * sz + sz <= es.length * sz := by rw [<- Nat.succ_mul]; exact Nat.mul_le_mul_right _ hle
  have hf := fill_one vs (p.1 * sz) (ρ p.2) (by rw [<- hcl, hlen, hvs]; exact hroom)
  obtain ⟨vs', hfill, r1, r2⟩ := hih w E σ ρ ((ρ p.2).cells.zipIdx.foldl (fun cs (x : Value × Nat) => cs.setIfInBounds (p.1 * sz + x.2) x.1) vs) (fun p' hp' => ho p' (by simp [hp']))
   (by rw [hf.1, hvs]; simp) (fun i e he => by
    rw [List.getElem?_set] at he
    by_cases hi : p.1 = i
    ·subst hi
     rw [if_pos rfl, if_pos hle] at he
     simp at he; subst he
     refine ⟨hlen, fun j s' hs' => ?_⟩
     have hj : j < c.length := (List.getElem?_eq_some_iff.1 hs').1
     refine ⟨(ρ p.2).cells[j]'(by omega), ?_, ?_⟩
     ·rw [hf.2, if_pos ⟨by omega, by omega⟩, show p.1 * sz + j - p.1 * sz = j by omega]
      exact Array.getElem?_eq_getElem (by omega)
     ·have := hcr j s' _ hs' (Array.getElem?_eq_getElem (by omega))
      exact ⟨hpure s' (List.mem_of_getElem? hs') w E σ [] _ this.1, this.2⟩
    ·rw [if_neg hi] at he
     obtain ⟨h1, h2⟩ := hrow i e he
     refine ⟨h1, fun j s' hs' => ?_⟩
     obtain ⟨v, hv, hv2⟩ := h2 j s' hs'
     refine ⟨v, ?_, hv2⟩
     have hj : j < sz := by rw [<- h1]; exact (List.getElem?_eq_some_iff.1 hs').1
     rw [hf.2, if_neg, hv]
     rw [<- hcl, hlen]
     rcases Nat.lt_or_ge i p.1 with hlt | hge
     ·have := Nat.mul_le_mul_right sz (show i + 1 <= p.1 from hlt)
      rw [Nat.succ_mul] at this; omega
     ·have := Nat.mul_le_mul_right sz (show p.1 + 1 <= i by omega)
      rw [Nat.succ_mul] at this; omega)
  refine ⟨vs', ?_, r1, r2⟩
  simp only [List.map_cons, Instr.fill]
  rw [if_neg (by rw [<- hcl, hlen, hvs]; simp; omega)]
  exact hfill
end
end Go.Sx

namespace Go.Sx
section
variable {P : Program} {T : Tab}
theorem run_val {m : Sem Value} {w w' : World} {v : Value} (h : m.run P w = .ok v w') : ((do pure (.value (<- m)) : Sem Next)).run P w = .ok (.value v) w' := by
 simp [h]
theorem run_unit {m : Sem Unit} {w w' : World} (h : m.run P w = .ok () w') : ((do m; pure .skip : Sem Next)).run P w = .ok .skip w' := by
 simp [h]
theorem cell_at {w : World} {g : Nat} {vs : Array Value} {t : TypeId} {fr : Nat × Nat} (h : w.heap[g]? = some (.cells vs t fr)) (off j : Nat) : w.cell? ((⟨g, off, none⟩ : Addr).add j) = vs[off + j]? := by
 unfold Addr.add
 split
 ·rename_i hj; subst hj; simp [World.cell?, h]
 ·simp [World.cell?, h]
theorem addr_add (g off n : Nat) : (⟨g, off, none⟩ : Addr).add n = ⟨g, off + n, none⟩ := by
 unfold Addr.add
 split
 ·rename_i h; subst h; rfl
 ·rfl
theorem fix_of {w : World} {X : Nat -> Prop} {σ : Sg} {h : Hp} (hI : Inv w X σ h) {b : Nat} {t : TypeId} {cs : List SV} (hb : h[b]? = some (.fix t cs)) :
  ∃ g vs, σ[b]? = some (.fix g) /\ w.heap[g]? = some (.cells vs t (0, 0)) /\ cs.length = vs.size /\ ∀ (i : Nat) (s : SV) (v : Value), cs[i]? = some s -> vs[i]? = some v -> Rep w (Ex X σ) σ s v /\ v.oneCell' = true := by
 have hlt : b < σ.length := by rw [hI.len]; exact (List.getElem?_eq_some_iff.1 hb).1
 have he : σ[b]? = some (σ[b]'hlt) := List.getElem?_eq_getElem hlt
 have := hI.ok b _ _ hb he
 cases hσ : σ[b]'hlt <;> rw [hσ] at this he <;> simp only [BlkOK] at this
 obtain ⟨vs, h1, h2, h3⟩ := this
 exact ⟨_, vs, he, h1, h2, h3⟩
theorem row_of {w : World} {X : Nat -> Prop} {σ : Sg} {h : Hp} (hI : Inv w X σ h) {b : Nat} {t : TypeId} {sz : Nat} {es : List (List SV)} (hb : h[b]? = some (.row t sz es)) :
  (∃ g cap vs, σ[b]? = some (.row g sz es.length cap) /\ es.length <= cap /\ cap <= maxLen /\ RowAt w g vs t /\ vs.size = cap * sz /\ RowOK w (Ex X σ) sz es vs) ∨
  (σ[b]? = some .rownil /\ es = []) := by
 have hlt : b < σ.length := by rw [hI.len]; exact (List.getElem?_eq_some_iff.1 hb).1
 have he : σ[b]? = some (σ[b]'hlt) := List.getElem?_eq_getElem hlt
 have := hI.ok b _ _ hb he
 cases hσ : σ[b]'hlt <;> rw [hσ] at this he <;> simp only [BlkOK] at this
 ·obtain ⟨rfl, rfl, h3, h4, vs, h5, h6, h7⟩ := this
  exact .inl ⟨_, _, vs, he, h3, h4, h5, h6, h7⟩
 ·exact .inr ⟨he, this⟩
theorem rep0 {w : World} {E : Nat -> Prop} {σ : Sg} {s : SV} {v : Value} (h : Rep w E [] s v) : Rep w E σ s v :=
 h.mono σ (fun _ _ _ => rfl) (Nat.le_refl _) (fun _ _ h => h) (by simp)
theorem load_ok (hT : TabOK P T) {F : Fr} {h : Hp} {nid : Nat} {t : TypeId} {x : Operand} {K : Kop} (hk : opK T F h nid (.load t x) K) :
  ∃ s ws rds, K s ws rds /\ OpOK P F h (.load t x) s ws rds := by
 obtain ⟨sx, hk, hx⟩ := evK_sound (show evK F x _ from hk)
 have hop : ∀ (w : World) (E : Nat -> Prop) (σ : Sg) (ρ : Operand -> Value), (∀ y ∈ (Op.load t x).operands.toList, OpnRep w E σ F ρ y) -> Rep w E σ sx (ρ x) := fun w E σ ρ ho => hx w E σ ρ (ho x (by simp [Op.operands]))
 cases sx with
 | ptr b off =>
  obtain ⟨blk, hb, hk⟩ := nthK_sound (show nthK h b _ from hk)
  cases blk with
  | fix T0 cs =>
   obtain ⟨s, n, ag, hk, hag, hn, h1, h2⟩ := partK_sound hT (show partK T cs off t _ from hk)
   refine ⟨s, [], [b], hk, fun w X σ h2' ρ d ty pos after guard hI ho hrd => ?_, by simp⟩
   have hr := hop w _ σ ρ ho
   have hb' : h2'[b]? = some (.fix T0 cs) := (hrd b (by simp)).trans hb
   obtain ⟨g, vs, hσ, hg, hl, hc⟩ := fix_of hI hb'
   have hv : ρ x = .pointer (some ⟨g, off, none⟩) := by
    generalize hρ : ρ x = vx at hr
    cases hr with
    | ptr h' => rw [hσ] at h'; simp at h'; rw [h']
    | ptrD h' => rw [hσ] at h'; simp at h'
   obtain ⟨v, hrun, hrep⟩ := load_sound (P := P) (w := w) (σ := σ) (a := ⟨g, off, none⟩) (fun j => (vs[off + j]?).getD Go.undef) (hag w) (hn w) h1 h2 (fun j s hs => by
    have hj : off + j < vs.size := by rw [<- hl]; exact (List.getElem?_eq_some_iff.1 hs).1
    have hvj : vs[off + j]? = some (vs[off + j]'hj) := Array.getElem?_eq_getElem hj
    rw [cell_at hg, hvj]
    exact ⟨rfl, hc _ _ _ hs hvj⟩)
   exact .pure (run_val (by simp [Instr.loadAt, hv, Instr.sureAddr, hrun])) hI hrep
  | _ => exact hk.elim
 | ep b i f =>
  obtain ⟨blk, hb, hk⟩ := nthK_sound (show nthK h b _ from hk)
  cases blk with
  | row T0 sz es =>
   obtain ⟨e, he, hk⟩ := (show ElG es i _ from hk)
   obtain ⟨s, n, ag, hk, hag, hn, h1, h2⟩ := partK_sound hT (show partK T e f t _ from hk)
   refine ⟨s, [], [b], hk, fun w X σ h2' ρ d ty pos after guard hI ho hrd => ?_, by simp⟩
   have hr := hop w _ σ ρ ho
   have hb' : h2'[b]? = some (.row T0 sz es) := (hrd b (by simp)).trans hb
   rcases row_of hI hb' with ⟨g, cap, vs, hσ, hcap, hmax, hg, hl, hrow⟩ | ⟨_, hes⟩
   ·have hv : ρ x = .pointer (some ⟨g, i * sz + f, none⟩) := by
     generalize hρ : ρ x = vx at hr
     cases hr with
     | ep h' => rw [hσ] at h'; simp at h'; obtain ⟨rfl, rfl, _⟩ := h'; rfl
     | epD h' => rw [hσ] at h'; simp at h'
    obtain ⟨hel, hcell⟩ := hrow i e he
    obtain ⟨v, hrun, hrep⟩ := load_sound (P := P) (w := w) (E := Ex X σ) (σ := σ) (a := ⟨g, i * sz + f, none⟩) (fun j => (vs[i * sz + f + j]?).getD Go.undef) (hag w) (hn w) h1 h2 (fun j s hs => by
     obtain ⟨v, hv, hr, h1⟩ := hcell (f + j) s hs
     rw [<- Nat.add_assoc] at hv
     obtain ⟨fr, hg, _⟩ := hg
     rw [cell_at hg, hv]
     exact ⟨rfl, rep0 hr, h1⟩)
    exact .pure (run_val (by simp [Instr.loadAt, hv, Instr.sureAddr, hrun])) hI hrep
   ·subst hes; simp at he
  | _ => exact hk.elim
 | rp sz es i f =>
  obtain ⟨e, he, hk⟩ := (show ElG es i _ from hk)
  obtain ⟨s, n, ag, hk, hag, hn, h1, h2⟩ := partK_sound hT (show partK T e f t _ from hk)
  refine ⟨s, [], [], hk, OpOK.pure fun w E σ ρ d ty pos after guard ho => ?_⟩
  have hr := hop w E σ ρ ho
  generalize hρ : ρ x = vx at hr
  cases hr with
  | rp hE hlt hlen hcell hone hrep =>
   rename_i ad val
   obtain ⟨v, hrun, hrep⟩ := load_sound (P := P) (w := w) (E := E) (σ := σ) (a := ad.add (i * sz + f)) (fun j => val i (f + j)) (hag w) (hn w) h1 h2 (fun j s hs => by
    rw [add_add, Nat.add_assoc]
    exact ⟨hcell i e _ s he hs, rep0 (hrep i e _ s he hs), hone i e _ s he hs⟩)
   exact ⟨v, run_val (by simp [Instr.loadAt, hρ, Instr.sureAddr, hrun]), hrep⟩
 | _ => exact hk.elim
theorem setRow_facts {w : World} {g : Nat} {cs : Array Value} : (w.setRow g cs).os = w.os /\ (w.setRow g cs).tape = w.tape /\ (w.setRow g cs).output = w.output /\ (w.setRow g cs).heap.size = w.heap.size /\ ∀ k, k ≠ g -> (w.setRow g cs).heap[k]? = w.heap[k]? :=
 ⟨rfl, rfl, rfl, by simp, fun k hk => setRow_other w g k cs hk⟩
theorem RowAt.set {w : World} {g : Nat} {vs vs' : Array Value} {t : TypeId} (h : RowAt w g vs t) (hs : vs'.size = vs.size) : RowAt (w.setRow g vs') g vs' t := by
 obtain ⟨fr, h1, h2, h3⟩ := h
 exact ⟨fr, setRow_heap w g vs vs' t fr h1, fun k hk => h2 k (by omega), h3⟩
theorem run_storeCells_fr (g o : Nat) (t : TypeId) : ∀ (vs : List Value) (i : Nat) (cur : Array Value) (w : World), RowAt w g cur t -> o + i + vs.length <= cur.size -> (∀ v ∈ vs, v.oneCell' = true) ->
  (storeCells ⟨g, o, none⟩ vs i).run P w = .ok () (w.setRow g (cur.toList.take (o + i) ++ vs ++ cur.toList.drop (o + i + vs.length)).toArray)
 | [], i, cur, w, hg, _, _ => by
  obtain ⟨fr, hg, _⟩ := hg
  simp only [storeCells, List.append_nil, List.length_nil, Nat.add_zero, List.take_append_drop, Array.toArray_toList]
  rw [setRow_self w g cur t fr hg]
  rfl
 | v :: rest, i, cur, w, hg, hl, h1 => by
  have hi : o + i < cur.size := by simp at hl; omega
  have hadd : (⟨g, o, none⟩ : Addr).add i = ⟨g, o + i, none⟩ := by unfold Addr.add; split <;> simp_all
  have ih := run_storeCells_fr g o t rest (i + 1) (cur.setIfInBounds (o + i) v) (w.setRow g (cur.setIfInBounds (o + i) v)) (hg.set (by simp)) (by simp at hl ⊢; omega) (fun x hx => h1 x (by simp [hx]))
  obtain ⟨fr, hg, hfr, _⟩ := hg
  have hcell : w.cell? ⟨g, o + i, none⟩ = some cur[o + i] := by simp [World.cell?, hg, hi]
  have hfro : w.frozen? ⟨g, o + i, none⟩ = false := by
   have := hfr (o + i) hi
   simp [World.frozen?, hg]
   omega
  have hst : (store ((⟨g, o, none⟩ : Addr).add i) v).run P w = .ok () (w.setRow g (cur.setIfInBounds (o + i) v)) := by
   rw [hadd, run_store P w _ v _ (h1 v (by simp)), hcell]
   simp [hfro, setCell_eq_setRow w g (o + i) cur t fr v hg]
  simp only [storeCells, Sem.run_bind, hst, Result.andThen_ok, ih, setRow_setRow]
  congr 3
  have e := list_seg_step cur.toList (o + i) v rest (by simp at hl ⊢; omega)
  simpa [Array.toList_setIfInBounds, Nat.add_assoc] using e
theorem store_ok (hT : TabOK P T) {F : Fr} {h : Hp} {nid : Nat} {t : TypeId} {x y : Operand} {K : Kop} (hk : opK T F h nid (.store t x y) K) :
  ∃ s ws rds, K s ws rds /\ OpOK P F h (.store t x y) s ws rds := by
 obtain ⟨sx, hk, hx⟩ := evK_sound (show evK F x _ from hk)
 obtain ⟨sy, hk, hy⟩ := evK_sound (show evK F y _ from hk)
 obtain ⟨c, hk, hc⟩ := cellsK_all hk
 obtain ⟨n, ag, hk, _, hn⟩ := isAggK_sound hT hk
 obtain ⟨hlen, hk⟩ := eqNK_sound hk
 have hopx : ∀ (w : World) (E : Nat -> Prop) (σ : Sg) (ρ : Operand -> Value), (∀ z ∈ (Op.store t x y).operands.toList, OpnRep w E σ F ρ z) -> Rep w E σ sx (ρ x) := fun w E σ ρ ho => hx w E σ ρ (ho x (by simp [Op.operands]))
 have hopy : ∀ (w : World) (E : Nat -> Prop) (σ : Sg) (ρ : Operand -> Value), (∀ z ∈ (Op.store t x y).operands.toList, OpnRep w E σ F ρ z) -> Rep w E σ sy (ρ y) := fun w E σ ρ ho => hy w E σ ρ (ho y (by simp [Op.operands]))
 -- the run itself
 have hrun : ∀ (w : World) (ρ : Operand -> Value) (g off : Nat) (vs : Array Value) (t0 : TypeId), ρ x = .pointer (some ⟨g, off, none⟩) -> c.length = (ρ y).cells.size -> (∀ v ∈ (ρ y).cells.toList, v.oneCell' = true) ->
   RowAt w g vs t0 -> off + c.length <= vs.size ->
   (Instr.storeAt t (ρ x) (ρ y)).run P w = .ok () (w.setRow g (vs.toList.take off ++ (ρ y).cells.toList ++ vs.toList.drop (off + c.length)).toArray) := by
  intro w ρ g off vs t0 hp hl hone hg hroom
  have hst := run_storeCells_fr (P := P) g off t0 (ρ y).cells.toList 0 vs w hg (by simp; omega) hone
  simp only [Nat.add_zero, Array.length_toList, <- hl] at hst
  simp only [Instr.storeAt, hp, Instr.sureAddr, storeVar, Sem.run_bind, Sem.run_pure, Result.andThen_ok, hn w]
  rw [if_neg (by rw [<- hl, hlen]; simp)]
  exact hst
 cases sx with
 | ptr b off =>
  obtain ⟨blk, hb, hk⟩ := nthK_sound (show nthK h b _ from hk)
  cases blk with
  | fix T0 cs =>
   obtain ⟨hle, hk⟩ := putK_sound (show putK cs off c _ from hk)
   refine ⟨_, _, _, hk, fun w X σ h2' ρ d ty pos after guard hI ho hrd => ?_, by simp⟩
   have hr := hopx w _ σ ρ ho
   have hb' : h2'[b]? = some (.fix T0 cs) := (hrd b (by simp)).trans hb
   obtain ⟨g, vs, hσ, hg, hl, hcv⟩ := fix_of hI hb'
   have hv : ρ x = .pointer (some ⟨g, off, none⟩) := by
    generalize hρ : ρ x = vx at hr
    cases hr with
    | ptr h' => rw [hσ] at h'; simp at h'; rw [h']
    | ptrD h' => rw [hσ] at h'; simp at h'
   obtain ⟨hcl, hcr⟩ := hc w _ σ _ (hopy w _ σ ρ ho)
   have hone : ∀ v ∈ (ρ y).cells.toList, v.oneCell' = true := fun v hv => by
    obtain ⟨i, hi, rfl⟩ := List.getElem_of_mem hv
    have hi' : i < (ρ y).cells.size := by simpa using hi
    have := hcr i (c[i]'(by omega)) ((ρ y).cells[i]) (List.getElem?_eq_getElem (by omega)) (Array.getElem?_eq_getElem hi')
    simpa using this.2
   have hr := hrun w ρ g off vs T0 hv hcl hone (.of hg) (by omega)
   obtain ⟨f1, f2, f3, f4, f5⟩ := setRow_facts (w := w) (g := g) (cs := (vs.toList.take off ++ (ρ y).cells.toList ++ vs.toList.drop (off + c.length)).toArray)
   have hS := write_step hσ rfl f1 f2 f3 f4 f5
   unfold OpRes DoneS
   rw [show execOp ρ ⟨d, .store t x y, ty, pos, after, guard⟩ = (do Instr.storeAt t (ρ x) (ρ y); pure .skip) from rfl, run_unit hr]
   refine ⟨σ, .undef, ?_, hS, rfl⟩
   rw [upd_one]
   refine write_inv hI hσ rfl f1 f2 f3 f4 f5 (b := .fix T0 (cs.take off ++ (c ++ cs.drop (off + c.length)))) ⟨_, setRow_heap w g vs _ T0 (0, 0) hg, ?_, fun i s v hs hv' => ?_⟩
   ·rw [put_len _ _ _ hle]
    simp; omega
   ·rw [put_get _ _ _ hle] at hs
    have e : (vs.toList.take off ++ (ρ y).cells.toList ++ vs.toList.drop (off + c.length)).toArray[i]? = if off <= i /\ i < off + c.length then (ρ y).cells[i - off]? else vs[i]? := by
     have := put_get vs.toList off (ρ y).cells.toList (by simp; omega) i
     simp only [Array.length_toList, Array.getElem?_toList] at this
     rw [List.getElem?_toArray, List.append_assoc]
     rw [<- hcl] at this
     exact this
    rw [e] at hv'
    split at hs
    ·rename_i hin
     rw [if_pos hin] at hv'
     have := hcr _ s v hs hv'
     exact ⟨this.1.step hS (Nat.le_refl _), this.2⟩
    ·rename_i hin
     rw [if_neg hin] at hv'
     have := hcv i s v hs hv'
     exact ⟨this.1.step hS (Nat.le_refl _), this.2⟩
  | _ => exact hk.elim
 | ep b i f =>
  obtain ⟨blk, hb, hk⟩ := nthK_sound (show nthK h b _ from hk)
  cases blk with
  | row T0 sz es =>
   obtain ⟨hk, hpure⟩ := puresK_sound hk
   obtain ⟨e, he, hk⟩ := (show ElG es i _ from hk)
   obtain ⟨hle, hk⟩ := putK_sound (show putK e f c _ from hk)
   refine ⟨_, _, _, hk, fun w X σ h2' ρ d ty pos after guard hI ho hrd => ?_, by simp⟩
   have hr := hopx w _ σ ρ ho
   have hb' : h2'[b]? = some (.row T0 sz es) := (hrd b (by simp)).trans hb
   have hilt : i < es.length := (List.getElem?_eq_some_iff.1 he).1
   rcases row_of hI hb' with ⟨g, cap, vs, hσ, hcap, hmax, hg, hl, hrow⟩ | ⟨_, hes⟩
   ·have hv : ρ x = .pointer (some ⟨g, i * sz + f, none⟩) := by
     generalize hρ : ρ x = vx at hr
     cases hr with
     | ep h' => rw [hσ] at h'; simp at h'; obtain ⟨rfl, rfl, _⟩ := h'; rfl
     | epD h' => rw [hσ] at h'; simp at h'
    obtain ⟨hel, hcell⟩ := hrow i e he
    have hblk : i * sz + sz <= vs.size := by
     rw [hl]; calc i * sz + sz = (i + 1) * sz := by rw [Nat.succ_mul]
      _ <= cap * sz := Nat.mul_le_mul_right _ (by omega)
    obtain ⟨hcl, hcr⟩ := hc w _ σ _ (hopy w _ σ ρ ho)
    have hone : ∀ v ∈ (ρ y).cells.toList, v.oneCell' = true := fun v hv => by
     obtain ⟨i, hi, rfl⟩ := List.getElem_of_mem hv
     have hi' : i < (ρ y).cells.size := by simpa using hi
     have := hcr i (c[i]'(by omega)) ((ρ y).cells[i]) (List.getElem?_eq_getElem (by omega)) (Array.getElem?_eq_getElem hi')
     simpa using this.2
    have hr := hrun w ρ g (i * sz + f) vs T0 hv hcl hone hg (by omega)
    obtain ⟨f1, f2, f3, f4, f5⟩ := setRow_facts (w := w) (g := g) (cs := (vs.toList.take (i * sz + f) ++ (ρ y).cells.toList ++ vs.toList.drop (i * sz + f + c.length)).toArray)
    have hS := write_step hσ rfl f1 f2 f3 f4 f5
    unfold OpRes DoneS
    rw [show execOp ρ ⟨d, .store t x y, ty, pos, after, guard⟩ = (do Instr.storeAt t (ρ x) (ρ y); pure .skip) from rfl, run_unit hr]
    refine ⟨σ, .undef, ?_, hS, rfl⟩
    rw [upd_one]
    have eg : ∀ k, (vs.toList.take (i * sz + f) ++ (ρ y).cells.toList ++ vs.toList.drop (i * sz + f + c.length)).toArray[k]? = if i * sz + f <= k /\ k < i * sz + f + c.length then (ρ y).cells[k - (i * sz + f)]? else vs[k]? := fun k => by
     have := put_get vs.toList (i * sz + f) (ρ y).cells.toList (by simp; omega) k
     simp only [Array.length_toList, Array.getElem?_toList] at this
     rw [List.getElem?_toArray, List.append_assoc]
     rw [<- hcl] at this
     exact this
    refine write_inv hI hσ rfl f1 f2 f3 f4 f5 (b := .row T0 sz (es.set i (e.take f ++ (c ++ e.drop (f + c.length))))) ⟨rfl, by simp, by simpa using hcap, hmax, _, hg.set (by simp; omega), by simp; omega, fun k e' he' => ?_⟩
    rw [List.getElem?_set] at he'
    by_cases hik : i = k
    ·subst hik
     rw [if_pos rfl, if_pos hilt] at he'
     simp only [Option.some.injEq] at he'; subst he'
     refine ⟨by rw [put_len _ _ _ hle, hel], fun j s hs => ?_⟩
     rw [put_get _ _ _ hle] at hs
     rw [eg]
     split at hs
     ·rename_i hin
      have hj : j - f < c.length := by omega
      rw [if_pos (by omega), show i * sz + j - (i * sz + f) = j - f by omega]
      have hvj : (ρ y).cells[j - f]? = some ((ρ y).cells[j - f]'(by omega)) := Array.getElem?_eq_getElem (by omega)
      have := hcr _ s _ hs hvj
      exact ⟨_, hvj, (hpure s (List.mem_of_getElem? hs) w _ σ [] _ this.1).step0 hS, this.2⟩
     ·rename_i hin
      rw [if_neg (by omega)]
      obtain ⟨v, h1, h2, h3⟩ := hcell j s hs
      exact ⟨v, h1, h2.step0 hS, h3⟩
    ·rw [if_neg hik] at he'
     obtain ⟨hel', hcell'⟩ := hrow k e' he'
     refine ⟨hel', fun j s hs => ?_⟩
     obtain ⟨v, h1, h2, h3⟩ := hcell' j s hs
     have hj : j < sz := by rw [<- hel']; exact (List.getElem?_eq_some_iff.1 hs).1
     refine ⟨v, ?_, h2.step0 hS, h3⟩
     rw [eg, if_neg, h1]
     rcases Nat.lt_or_ge k i with hlt | hge
     ·have := Nat.mul_le_mul_right sz (show k + 1 <= i from hlt)
      rw [Nat.succ_mul] at this; omega
     ·have := Nat.mul_le_mul_right sz (show i + 1 <= k by omega)
      rw [Nat.succ_mul] at this; omega
   ·subst hes; simp at he
  | _ => exact hk.elim
 | _ => exact hk.elim
end
end Go.Sx

namespace Go.Sx
section
variable {P : Program} {T : Tab}
def OpGood (P : Program) (F : Fr) (h : Hp) (op : Op) (K : Kop) : Prop := ∃ s ws rds, K s ws rds /\ OpOK P F h op s ws rds
theorem good_pure {F : Fr} {h : Hp} {op : Op} {K : Kop} {s : SV} {rds : List Nat} (hk : K s [] rds)
  (hx : ∀ (w : World) (E : Nat -> Prop) (σ : Sg) (ρ : Operand -> Value) (d : Option Tmp) (ty : TypeId) (pos : String) (after : Array Edge) (guard : Option (Nat × Bool)),
   (∀ x ∈ op.operands.toList, OpnRep w E σ F ρ x) -> ∃ v, (execOp ρ ⟨d, op, ty, pos, after, guard⟩).run P w = .ok (.value v) w /\ Rep w E σ s v) : OpGood P F h op K :=
 ⟨s, [], rds, hk, OpOK.pure hx⟩
theorem move_ok {F : Fr} {h : Hp} {nid : Nat} {x : Operand} {K : Kop} (hk : opK T F h nid (.move x) K) : OpGood P F h (.move x) K := by
 obtain ⟨s, hk, hx⟩ := evK_sound (show evK F x _ from hk)
 exact good_pure hk fun w E σ ρ d ty pos after guard ho => ⟨ρ x, rfl, hx w E σ ρ (ho x (by simp [Op.operands]))⟩
theorem assign_ok {F : Fr} {h : Hp} {nid : Nat} {x : Operand} {K : Kop} (hk : opK T F h nid (.assign x) K) : OpGood P F h (.assign x) K := by
 obtain ⟨s, hk, hx⟩ := evK_sound (show evK F x _ from hk)
 exact good_pure hk fun w E σ ρ d ty pos after guard ho => ⟨ρ x, rfl, hx w E σ ρ (ho x (by simp [Op.operands]))⟩
theorem pick_ok {F : Fr} {h : Hp} {nid : Nat} {c a b : Operand} {K : Kop} (hk : opK T F h nid (.pick c a b) K) : OpGood P F h (.pick c a b) K := by
 obtain ⟨sc, hk, hc⟩ := evK_sound (show evK F c _ from hk)
 have hoc : ∀ (w : World) (E : Nat -> Prop) (σ : Sg) (ρ : Operand -> Value), (∀ x ∈ (Op.pick c a b).operands.toList, OpnRep w E σ F ρ x) -> Rep w E σ sc (ρ c) := fun w E σ ρ ho => hc w E σ ρ (ho c (by simp [Op.operands]))
 cases sc with
 | tt =>
  obtain ⟨s, hk, hx⟩ := evK_sound (show evK F a _ from hk)
  exact good_pure hk fun w E σ ρ d ty pos after guard ho => by
   have h1 := hoc w E σ ρ ho
   have h2 := hx w E σ ρ (ho a (by simp [Op.operands]))
   generalize hρ : ρ c = vc at h1
   cases h1
   exact ⟨ρ a, by simp [execOp, hρ, asBool], h2⟩
 | ff =>
  obtain ⟨s, hk, hx⟩ := evK_sound (show evK F b _ from hk)
  exact good_pure hk fun w E σ ρ d ty pos after guard ho => by
   have h1 := hoc w E σ ρ ho
   have h2 := hx w E σ ρ (ho b (by simp [Op.operands]))
   generalize hρ : ρ c = vc at h1
   cases h1
   exact ⟨ρ b, by simp [execOp, hρ, asBool], h2⟩
 | bool x =>
  obtain ⟨sa, hk, ha⟩ := evK_sound (show evK F a _ from hk)
  obtain ⟨va, hk, hva⟩ := asB_sound hk
  obtain ⟨sb, hk, hb⟩ := evK_sound hk
  obtain ⟨vb, hk, hvb⟩ := asB_sound hk
  exact good_pure hk fun w E σ ρ d ty pos after guard ho => by
   have h1 := hoc w E σ ρ ho
   have h2 := hva _ _ _ _ (ha w E σ ρ (ho a (by simp [Op.operands])))
   have h3 := hvb _ _ _ _ (hb w E σ ρ (ho b (by simp [Op.operands])))
   generalize hρ : ρ c = vc at h1
   cases h1
   refine ⟨.bool (cond x va vb), ?_, .bool⟩
   simp only [execOp, hρ, h2, h3, asBool, Sem.run_bind, Sem.run_pure, Result.andThen_ok]
   cases x <;> rfl
 | _ => exact hk.elim
theorem alloc_ok (hT : TabOK P T) {F : Fr} {h : Hp} {nid : Nat} (hf : h[nid]? = some .fresh) {t : TypeId} {K : Kop} (hk : opK T F h nid (.alloc t) K) : OpGood P F h (.alloc t) K := by
 replace hk := tyK_sound hT (show tyK T t _ from hk)
 have hi : ∃ i, P.info? t = some i /\ (teOf P t).zero = zeroOf i := by
  cases hi : P.info? t with
  | none => simp only [teOf, hi] at hk; exact hk.elim
  | some i => exact ⟨i, rfl, by simp [teOf, hi]⟩
 obtain ⟨i, hi, hz⟩ := hi
 rw [hz] at hk
 obtain ⟨hk, z, hz1, hz2, hz3, _⟩ := zeroK_sound hk
 refine ⟨_, _, _, hk, fun w X σ h2 ρ d ty pos after guard hI ho hrd => ?_, by simp⟩
 have hf' : h2[nid]? = some .fresh := (hrd nid (by simp)).trans hf
 obtain ⟨hl, hr⟩ := zero_rep (w := w) (E := Ex X σ) (σ := σ) hz3
 rw [<- hz2] at hl hr
 have hn := new_fix hI hf' (t := t) hl hr
 unfold OpRes DoneS
 rw [show execOp ρ ⟨d, .alloc t, ty, pos, after, guard⟩ = (do pure (.value (<- Instr.alloc t true (.tuple #[])))) from rfl,
  run_val (v := .pointer (some ⟨w.heap.size, 0, none⟩)) (w' := w.alloc (.cells z.cells t)) (by simp [Instr.alloc, zeroValue, run_info hi, hz1, newVar, newRow])]
 exact hn
theorem box_ok {F : Fr} {h : Hp} {nid : Nat} (hf : h[nid]? = some .fresh) {t : TypeId} {x : Operand} {K : Kop} (hk : opK T F h nid (.box t x) K) : OpGood P F h (.box t x) K := by
 obtain ⟨s, hk, hx⟩ := evK_sound (show evK F x _ from hk)
 obtain ⟨c, hk, hc⟩ := cellsK_all hk
 refine ⟨_, _, _, hk, fun w X σ h2 ρ d ty pos after guard hI ho hrd => ?_, by simp⟩
 have hf' : h2[nid]? = some .fresh := (hrd nid (by simp)).trans hf
 obtain ⟨hl, hr⟩ := hc w _ σ _ (hx w _ σ ρ (ho x (by simp [Op.operands])))
 have hn := new_fix hI hf' (t := t) hl hr
 unfold OpRes DoneS
 rw [show execOp ρ ⟨d, .box t x, ty, pos, after, guard⟩ = (do pure (.value (<- Instr.box t (ρ x)))) from rfl,
  run_val (v := .pointer (some ⟨w.heap.size, 0, none⟩)) (w' := w.alloc (.cells (ρ x).cells t)) (by simp [Instr.box, newVar, newRow])]
 exact hn
theorem binOp_ok (hT : TabOK P T) {F : Fr} {h : Hp} {nid : Nat} {op : BinOp} {t u : TypeId} {x y : Operand} {K : Kop} (hk : opK T F h nid (.binOp op t x y u) K) : OpGood P F h (.binOp op t x y u) K := by
 obtain ⟨sx, hk, hx⟩ := evK_sound (show evK F x _ from hk)
 obtain ⟨sy, hk, hy⟩ := evK_sound (show evK F y _ from hk)
 obtain ⟨s, hk, hb⟩ := binK_sound hT hk
 exact good_pure hk fun w E σ ρ d ty pos after guard ho => by
  obtain ⟨v, hv, hr⟩ := hb w E σ _ _ x y (hx w E σ ρ (ho x (by simp [Op.operands]))) (hy w E σ ρ (ho y (by simp [Op.operands])))
  exact ⟨v, run_val hv, hr⟩
theorem unOp_ok {F : Fr} {h : Hp} {nid : Nat} {op : UnOp} {t : TypeId} {x : Operand} {K : Kop} (hk : opK T F h nid (.unOp op t x) K) : OpGood P F h (.unOp op t x) K := by
 obtain ⟨sx, hk, hx⟩ := evK_sound (show evK F x _ from hk)
 obtain ⟨s, hk, hb⟩ := unK_sound (P := P) hk
 exact good_pure hk fun w E σ ρ d ty pos after guard ho => by
  obtain ⟨v, hv, hr⟩ := hb w E σ _ (hx w E σ ρ (ho x (by simp [Op.operands])))
  exact ⟨v, run_val hv, hr⟩
theorem extract_ok {F : Fr} {h : Hp} {nid : Nat} {x : Operand} {i : Nat} {K : Kop} (hk : opK T F h nid (.extract x i) K) : OpGood P F h (.extract x i) K := by
 obtain ⟨sx, hk, hx⟩ := evK_sound (show evK F x _ from hk)
 cases sx with
 | tup vs =>
  obtain ⟨s, hs, hk⟩ := nthK_sound (show nthK vs i _ from hk)
  exact good_pure hk fun w E σ ρ d ty pos after guard ho => by
   have h1 := hx w E σ ρ (ho x (by simp [Op.operands]))
   generalize hρ : ρ x = vx at h1
   cases h1 with
   | tup hl hc =>
    rename_i vals
    have hi : i < vals.size := by rw [<- hl]; exact (List.getElem?_eq_some_iff.1 hs).1
    have hv : vals[i]? = some (vals[i]'hi) := Array.getElem?_eq_getElem hi
    exact ⟨_, run_val (by rw [hρ]; simp [Instr.extract, hv]), hc i s _ hs hv⟩
 | _ => exact hk.elim
theorem field_ok (hT : TabOK P T) {F : Fr} {h : Hp} {nid : Nat} {t : TypeId} {x : Operand} {f : Nat} {K : Kop} (hk : opK T F h nid (.field t x f) K) : OpGood P F h (.field t x f) K := by
 replace hk := tyK_sound hT (show tyK T t _ from hk)
 obtain ⟨sx, hk, hx⟩ := evK_sound hk
 generalize hti : (teOf P t).ti = ti at hk
 obtain ⟨fs, cs, hti', hsx, hk⟩ : ∃ fs cs, ti = .struct fs /\ sx = .agg cs /\ nthK fs f fun p => partK T cs p.1 p.2.1 fun s => K s [] [] := by
  cases ti with
  | struct fs => cases sx with
   | agg cs => exact ⟨fs, cs, rfl, rfl, hk⟩
   | _ => exact hk.elim
  | _ => cases sx <;> exact hk.elim
 subst hti'; subst hsx
 obtain ⟨q, hq, hk⟩ := nthK_sound (show nthK fs f _ from hk)
 obtain ⟨s, n, b, hkk, h1, h2, h3, h4⟩ := partK_sound hT hk
 obtain ⟨fields, hu, hfs, _⟩ := und_struct (ti_of hti (by simp)).1
 subst hfs
 rw [List.getElem?_map, Array.getElem?_toList] at hq
 cases hff : fields[f]? with
 | none => rw [hff] at hq; simp at hq
 | some fd =>
  rw [hff] at hq
  simp at hq; subst hq
  exact good_pure hkk fun w E σ ρ d ty pos after guard ho => by
   have hr := hx w E σ ρ (ho x (by simp [Op.operands]))
   generalize hρ : ρ x = vx at hr
   cases hr with
   | agg hl hone hc =>
    obtain ⟨v, hv, hrep⟩ := part_sound (P := P) (w := w) (h1 w) (h2 w) h3 h4 hl hone hc
    exact ⟨v, run_val (by rw [hρ]; simp [Instr.field, run_underlying' hu, hff, asAgg, hv]), hrep⟩
theorem index_ok (hT : TabOK P T) {F : Fr} {h : Hp} {nid : Nat} {t : TypeId} {x i : Operand} {K : Kop} (hk : opK T F h nid (.index t x i) K) : OpGood P F h (.index t x i) K := by
 replace hk := tyK_sound hT (show tyK T t _ from hk)
 obtain ⟨sx, hk, hx⟩ := evK_sound hk
 obtain ⟨si, hk, hi⟩ := evK_sound hk
 generalize hti : (teOf P t).ti = ti at hk
 obtain ⟨s, q, n, hti', hsx, hsi, hk⟩ : ∃ s q n, ti = .str /\ sx = .str s /\ si = .int q n /\ (0 <= n /\ n < (s.length : Int)) /\ K (.int .u8 ((s.getD n.toNat 0).toNat : Int)) [] [] := by
  cases ti with
  | str => cases sx with
   | str s => cases si with
    | int q n => exact ⟨s, q, n, rfl, rfl, rfl, hk⟩
    | _ => exact hk.elim
   | _ => cases si <;> exact hk.elim
  | _ => cases sx <;> cases si <;> exact hk.elim
 subst hti'; subst hsx; subst hsi
 have hu := und_str (ti_of hti (by simp)).1
 obtain ⟨⟨h0, h1⟩, hk⟩ := hk
 exact good_pure hk fun w E σ ρ d ty pos after guard ho => by
  have hr := hx w E σ ρ (ho x (by simp [Op.operands]))
  have hr2 := hi w E σ ρ (ho i (by simp [Op.operands]))
  generalize hρ : ρ x = vx at hr
  generalize hρi : ρ i = vi at hr2
  cases hr; cases hr2
  have hlt : n.toNat < s.length := by omega
  have hget : (⟨s.toArray⟩ : ByteArray)[n.toNat]? = some s[n.toNat] := by
   rw [getElem?_pos (⟨s.toArray⟩ : ByteArray) n.toNat (by simpa [ByteArray.size] using hlt)]
   rfl
  refine ⟨_, run_val (v := .int .u8 ((s.getD n.toNat 0).toNat : Int)) ?_, .int⟩
  rw [hρ, hρi]
  simp [Instr.index, asIntOf, run_underlying' hu, h0, hget, List.getD_eq_getElem?_getD, List.getElem?_eq_getElem hlt]
theorem nilCheck_ok {F : Fr} {h : Hp} {nid : Nat} {x : Operand} {K : Kop} (hk : opK T F h nid (.nilCheck x) K) : OpGood P F h (.nilCheck x) K := by
 obtain ⟨sx, hk, hx⟩ := evK_sound (show evK F x _ from hk)
 cases sx <;> try exact hk.elim
 all_goals
  exact good_pure hk fun w E σ ρ d ty pos after guard ho => by
   have hr := hx w E σ ρ (ho x (by simp [Op.operands]))
   refine ⟨ρ x, ?_, hr⟩
   generalize hρ : ρ x = vx at hr
   cases hr <;> simp [execOp, hρ]
theorem fieldAddr_ok (hT : TabOK P T) {F : Fr} {h : Hp} {nid : Nat} {t : TypeId} {x : Operand} {f : Nat} {K : Kop} (hk : opK T F h nid (.fieldAddr t x f) K) : OpGood P F h (.fieldAddr t x f) K := by
 replace hk := tyK_sound hT (show tyK T t _ from hk)
 obtain ⟨sx, hk, hx⟩ := evK_sound hk
 generalize hti : (teOf P t).ti = ti at hk
 cases ti with
 | struct fs =>
  obtain ⟨fields, hu, hfs, hinfo⟩ := und_struct (ti_of hti (by simp)).1
  -- the field
  have key : ∀ {q : Nat × TypeId × Nat}, fs[f]? = some q -> q.2.2 ≠ 0 -> ∀ (w : World) (ρ : Operand -> Value) (a : Addr), ρ x = .pointer (some a) ->
    (Instr.fieldAt t (ρ x) f).run P w = .ok (.pointer (some (a.add q.1))) w := by
   intro q hq hne w ρ a ha
   subst hfs
   rw [List.getElem?_map, Array.getElem?_toList] at hq
   cases hff : fields[f]? with
   | none => rw [hff] at hq; simp at hq
   | some fd =>
    rw [hff] at hq
    simp at hq; subst hq
    have hin := hinfo fd (by simpa using Array.mem_of_getElem? hff)
    obtain ⟨i, hi⟩ := Option.isSome_iff_exists.1 hin
    have hc : P.cellsOf fd.type = i.size := by simp [Program.cellsOf, hi]
    rw [hc] at hne
    simp [Instr.fieldAt, run_underlying' hu, hff, ha, Instr.sureAddr, fieldPlace, run_sizeOf hi, hne]
  cases sx with
  | ptr b off =>
   obtain ⟨q, hq, hk⟩ := nthK_sound (show nthK fs f _ from hk)
   obtain ⟨hne, hk⟩ := neK_sound hk
   exact good_pure hk fun w E σ ρ d ty pos after guard ho => by
    have hr := hx w E σ ρ (ho x (by simp [Op.operands]))
    generalize hρ : ρ x = vx at hr
    cases hr with
    | ptr h' => exact ⟨_, run_val (key hq hne w ρ _ hρ), by rw [addr_add]; exact .ptr h'⟩
    | ptrD h' => exact ⟨_, run_val (key hq hne w ρ _ hρ), by rw [addr_add]; exact .ptrD h'⟩
  | ep b i o =>
   obtain ⟨q, hq, hk⟩ := nthK_sound (show nthK fs f _ from hk)
   obtain ⟨hne, hk⟩ := neK_sound hk
   exact good_pure hk fun w E σ ρ d ty pos after guard ho => by
    have hr := hx w E σ ρ (ho x (by simp [Op.operands]))
    generalize hρ : ρ x = vx at hr
    cases hr with
    | ep h' => exact ⟨_, run_val (key hq hne w ρ _ hρ), by rw [addr_add, Nat.add_assoc]; exact .ep h'⟩
    | epD h' => exact ⟨_, run_val (key hq hne w ρ _ hρ), by rw [addr_add]; exact .epD h'⟩
  | gp b N i o =>
   obtain ⟨q, hq, hk⟩ := nthK_sound (show nthK fs f _ from hk)
   obtain ⟨hne, hk⟩ := neK_sound hk
   exact good_pure hk fun w E σ ρ d ty pos after guard ho => by
    have hr := hx w E σ ρ (ho x (by simp [Op.operands]))
    generalize hρ : ρ x = vx at hr
    cases hr with
    | gp h' => exact ⟨_, run_val (key hq hne w ρ _ hρ), by rw [addr_add, Nat.add_assoc]; exact .gp h'⟩
    | gpD h' => exact ⟨_, run_val (key hq hne w ρ _ hρ), by rw [addr_add]; exact .gpD h'⟩
  | rp z es i o =>
   obtain ⟨q, hq, hk⟩ := nthK_sound (show nthK fs f _ from hk)
   obtain ⟨hne, hk⟩ := neK_sound hk
   exact good_pure hk fun w E σ ρ d ty pos after guard ho => by
    have hr := hx w E σ ρ (ho x (by simp [Op.operands]))
    generalize hρ : ρ x = vx at hr
    cases hr with
    | rp hE hlt hlen hcell hone hrep => exact ⟨_, run_val (key hq hne w ρ _ hρ), by rw [add_add, Nat.add_assoc]; exact .rp hE hlt hlen hcell hone hrep⟩
  | _ => exact hk.elim
 | _ => cases sx <;> exact hk.elim
end
end Go.Sx

namespace Go.Sx
section
variable {P : Program} {T : Tab}
theorem info_of_zero {t : TypeId} {k : List SV -> Prop} (h : zeroK (teOf P t).zero k) :
  ∃ i z, P.info? t = some i /\ (teOf P t).size = i.size /\ (teOf P t).bytes = i.bytes /\ (teOf P t).zero = z.cells.toList.map ofV /\ i.zero = some z /\ (∀ v ∈ z.cells.toList, v.oneCell' = true) /\ z.cells.size = i.size /\ k (teOf P t).zero := by
 cases hi : P.info? t with
 | none => simp only [teOf, hi] at h; exact h.elim
 | some i =>
  have e : (teOf P t).zero = zeroOf i := by simp [teOf, hi]
  rw [e] at h ⊢
  obtain ⟨hk, z, h1, h2, h3, h4⟩ := zeroK_sound h
  exact ⟨i, z, rfl, by simp [teOf, hi], by simp [teOf, hi], h2, h1, h3, h4, hk⟩
theorem build_ok (hT : TabOK P T) {F : Fr} {h : Hp} {nid : Nat} {t : TypeId} {ps : Array (Nat × Operand)} {K : Kop} (hk : opK T F h nid (.build t ps) K) : OpGood P F h (.build t ps) K := by
 replace hk := tyK_sound hT (show tyK T t _ from hk)
 generalize hti : (teOf P t).ti = ti at hk
 cases ti with
 | struct fs =>
  obtain ⟨i, z, hi, _, _, hz, hz1, hz3, _, hk⟩ := info_of_zero hk
  rw [hz] at hk
  obtain ⟨cs, hk, hb⟩ := buildK_sound ps.toList hk
  obtain ⟨fields, hu, hfs, hinfo⟩ := und_struct (ti_of hti (by simp)).1
  have hplaces : fields.toList.mapM (fun f => (P.info? f.type).map fun i => (f.offset, i.size)) = some (fields.toList.map fun f => (f.offset, P.cellsOf f.type)) := by
   have : ∀ l : List Field, (∀ f ∈ l, (P.info? f.type).isSome = true) -> l.mapM (fun f => (P.info? f.type).map fun i => (f.offset, i.size)) = some (l.map fun f => (f.offset, P.cellsOf f.type)) := by
    intro l
    induction l with
    | nil => intro _; rfl
    | cons f l ih =>
     intro hl
     obtain ⟨j, hj⟩ := Option.isSome_iff_exists.1 (hl f (by simp))
     simp [List.mapM_cons, hj, ih fun g hg => hl g (by simp [hg]), Program.cellsOf]
   exact this _ hinfo
  exact good_pure hk fun w E σ ρ d ty pos after guard ho => by
   obtain ⟨vs', hfill, hl, hc⟩ := hb w E σ ρ z.cells (fun p hp => ho p.2 (by simp only [Op.operands, List.mem_map]; exact ⟨p, hp, rfl⟩)) (zero_rep hz3)
   refine ⟨.agg vs', run_val (m := Instr.build t (ps.map fun (i, x) => (i, ρ x))) (run_build w t _ vs' ?_), .agg hl (fun j v hv => ?_) fun j s v hs hv => (hc j s v hs hv).1⟩
   ·unfold Program.built
    simp only [hi, hu, hz1, hplaces]
    have e : (fun x => ((fields.toList.map fun f => (f.offset, P.cellsOf f.type)).toArray[x]? : Option (Nat × Nat))) = fun i : Nat => (fs[i]?).map fun q : Nat × TypeId × Nat => (q.1, q.2.2) := by
     funext x
     subst hfs
     simp only [List.getElem?_toArray, List.getElem?_map]
     cases fields.toList[x]? <;> rfl
    have e2 : (ps.map fun (i, x) => (i, ρ x)).toList = ps.toList.map fun p => (p.1, ρ p.2) := by simp
    rw [e, e2]; exact hfill
   ·have hj : j < cs.length := by rw [hl]; exact (Array.getElem?_eq_some_iff.1 hv).1
    exact (hc j _ v (List.getElem?_eq_getElem hj) hv).2
 | array n e =>
  replace hk := tyK_sound hT (show tyK T e _ from hk)
  obtain ⟨ie, ze, hie, _, _, _, _, _, _, hk⟩ := info_of_zero hk
  split at hk
  ·rename_i hps
   obtain ⟨i, z, hi, _, _, hz, hz1, hz3, _, hk⟩ := info_of_zero hk
   rw [hz] at hk
   have hu := und_array (ti_of hti (by simp)).1
   exact good_pure hk fun w E σ ρ d ty pos after guard ho => by
    obtain ⟨hl, hr⟩ := zero_rep (w := w) (E := E) (σ := σ) hz3
    refine ⟨.agg z.cells, run_val (m := Instr.build t (ps.map fun (i, x) => (i, ρ x))) (run_build w t _ z.cells ?_), .agg hl (fun j v hv => ?_) fun j s v hs hv => (hr j s v hs hv).1⟩
    ·unfold Program.built
     simp only [hi, hu, hz1, hie]
     have e2 : (ps.map fun (i, x) => (i, ρ x)).toList = [] := by simp [hps]
     rw [e2]; rfl
    ·have hj : j < (z.cells.toList.map ofV).length := by rw [hl]; exact (Array.getElem?_eq_some_iff.1 hv).1
     exact (hr j _ v (List.getElem?_eq_getElem hj) hv).2
  ·exact hk.elim
 | _ => exact hk.elim
theorem zeros_row {w : World} {E : Nat -> Prop} {z : Value} {n sz : Nat} (hsz : z.cells.size = sz) (hone : ∀ v ∈ z.cells.toList, v.oneCell' = true) :
  RowOK w E sz (List.replicate n (z.cells.toList.map ofV)) ((Array.range (n * sz)).map (z.cells[· % z.cells.size]!)) := by
 intro i e he
 have hi : i < n := by
  have := (List.getElem?_eq_some_iff.1 he).1; simpa using this
 rw [List.getElem?_replicate, if_pos hi] at he
 simp at he; subst he
 refine ⟨by simpa using hsz, fun j s hs => ?_⟩
 have hj : j < z.cells.size := by
  have := (List.getElem?_eq_some_iff.1 hs).1; simpa using this
 have hlt : i * sz + j < n * sz := by
  have := Nat.mul_le_mul_right sz (show i + 1 <= n from hi)
  rw [Nat.succ_mul] at this; omega
 have hmod : (i * sz + j) % z.cells.size = j := by
  rw [hsz, Nat.mul_comm, Nat.mul_add_mod]; exact Nat.mod_eq_of_lt (by omega)
 refine ⟨z.cells[j], ?_, ?_, hone _ (by simp)⟩
 ·rw [Array.getElem?_eq_getElem (by simpa using hlt)]
  simp [hmod, hj]
 ·rw [List.getElem?_map, Array.getElem?_toList, Array.getElem?_eq_getElem hj] at hs
  simp at hs; subst hs
  exact rep_ofV' _
theorem buildSlice_ok (hT : TabOK P T) {F : Fr} {h : Hp} {nid : Nat} (hf : h[nid]? = some .fresh) {t : TypeId} {n : Nat} {ps : Array (Nat × Operand)} {K : Kop} (hk : opK T F h nid (.buildSlice t n ps) K) : OpGood P F h (.buildSlice t n ps) K := by
 replace hk := tyK_sound hT (show tyK T t _ from hk)
 generalize hti : (teOf P t).ti = ti at hk
 cases ti with
 | slice e =>
  replace hk := tyK_sound hT (show tyK T e _ from hk)
  obtain ⟨i, z, hi, hsize, _, hz, hz1, hz3, hzsz, hk⟩ := info_of_zero hk
  obtain ⟨hsmall, hk⟩ := leNK_sound hk
  obtain ⟨hpos, hk⟩ := leNK_sound hk
  replace hk := repK_sound hk
  obtain ⟨es, hk, hlen, hb⟩ := elemsK_sound ps.toList hk
  have hu := und_slice (ti_of hti (by simp)).1
  refine ⟨_, _, _, hk, fun w X σ h2 ρ d ty pos after guard hI ho hrd => ?_, by simp⟩
  have hf' : h2[nid]? = some .fresh := (hrd nid (by simp)).trans hf
  rw [hsize] at hb hsmall hpos ⊢
  obtain ⟨vs, hfill, hl, hrow⟩ := hb w (Ex X σ) σ ρ ((Array.range (n * i.size)).map (z.cells[· % z.cells.size]!)) (fun p hp => ho p.2 (by simp only [Op.operands, List.mem_map]; exact ⟨p, hp, rfl⟩)) (by simp)
   (by rw [hz]; exact zeros_row hzsz hz3)
  have hl' : es.length = n := by rw [hlen]; simp
  unfold OpRes DoneS
  rw [show execOp ρ ⟨d, .buildSlice t n ps, ty, pos, after, guard⟩ = (do pure (.value (<- Instr.buildSlice t n (ps.map fun (i, x) => (i, ρ x))))) from rfl]
  have hrun : (Instr.buildSlice t n (ps.map fun (i, x) => (i, ρ x))).run P w = .ok (.slice (some ⟨w.heap.size, 0, none⟩) n n) (w.alloc (.cells vs e)) := by
   have e2 : (ps.map fun (i, x) => (i, ρ x)).toList = ps.toList.map fun p => (p.1, ρ p.2) := by simp
   by_cases hn0 : n = 0
   ·subst hn0
    have hr0 : (Array.range (0 * i.size)).map (z.cells[· % z.cells.size]!) = #[] := Array.eq_empty_of_size_eq_zero (by simp)
    rw [hr0] at hfill
    have hr1 : ∀ zero : Array Value, (Array.range 0).map (zero[· % zero.size]!) = #[] := fun _ => Array.eq_empty_of_size_eq_zero (by simp)
    simp only [Instr.buildSlice, Sem.run_bind, run_underlying' hu, Result.andThen_ok, run_sizeOf hi, Nat.zero_mul, hr1, e2, hfill]
    rfl
   ·refine run_buildSlice w t e n _ vs i z hu hi hz1 (by simp; omega) (by have := Nat.mul_pos (Nat.pos_of_ne_zero hn0) hpos; omega) ?_
    rw [e2]; exact hfill
  rw [run_val hrun]
  have := new_row hI hf' (t := e) (sz := i.size) (cap := n) (es := es) (vs := vs) (by omega) (by simp only [maxLen]; have := Nat.le_mul_of_pos_right n hpos; omega) (by rw [hl, hl']) hrow
  rw [hl'] at this
  exact this
 | _ => exact hk.elim
theorem indexAddr_ok (hT : TabOK P T) {F : Fr} {h : Hp} {nid : Nat} {t : TypeId} {x i : Operand} {K : Kop} (hk : opK T F h nid (.indexAddr t x i) K) : OpGood P F h (.indexAddr t x i) K := by
 replace hk := tyK_sound hT (show tyK T t _ from hk)
 obtain ⟨sx, hk, hx⟩ := evK_sound hk
 obtain ⟨si, hk, hi⟩ := evK_sound hk
 generalize hti : (teOf P t).ti = ti at hk
 have hox : ∀ (w : World) (E : Nat -> Prop) (σ : Sg) (ρ : Operand -> Value), (∀ z ∈ (Op.indexAddr t x i).operands.toList, OpnRep w E σ F ρ z) -> Rep w E σ sx (ρ x) := fun w E σ ρ ho => hx w E σ ρ (ho x (by simp [Op.operands]))
 have hoi : ∀ (w : World) (E : Nat -> Prop) (σ : Sg) (ρ : Operand -> Value), (∀ z ∈ (Op.indexAddr t x i).operands.toList, OpnRep w E σ F ρ z) -> Rep w E σ si (ρ i) := fun w E σ ρ ho => hi w E σ ρ (ho i (by simp [Op.operands]))
 cases ti with
 | slice e =>
  have hu := und_slice (ti_of hti (by simp)).1
  cases sx with
  | rs z es =>
   cases si with
   | int q n =>
    obtain ⟨sz, ag, hk, _, hn⟩ := isAggK_sound hT (show isAggK T e _ from hk)
    cases hb : Nat.beq sz z with
    | false => rw [hb] at hk; exact hk.elim
    | true =>
     rw [hb] at hk
     have hzz := Nat.eq_of_beq_eq_true hb
     subst hzz
     obtain ⟨⟨h0, h1⟩, hk⟩ := hk
     exact good_pure hk fun w E σ ρ d ty pos after guard ho => by
      have hr := hox w E σ ρ ho
      have hr2 := hoi w E σ ρ ho
      generalize hρ : ρ x = vx at hr
      generalize hρi : ρ i = vi at hr2
      cases hr2
      cases hr with
      | rs0 hc => simp at h1; omega
      | rs hc hm hE hlt hlen hcell hone hrep =>
       rename_i ad c val
       refine ⟨.pointer (some (ad.add (n.toNat * sz))), run_val ?_, by rw [show n.toNat * sz = n.toNat * sz + 0 from rfl]; exact .rp hE hlt hlen hcell hone hrep⟩
       rw [hρ, hρi]
       simp [Instr.indexAt, asIntOf, run_underlying' hu, hn w, h0, h1]
   | _ => exact hk.elim
  | sl b =>
   cases si with
   | int q n =>
    obtain ⟨blk, hb0, hk⟩ := nthK_sound (show nthK h b _ from hk)
    cases blk with
    | row T0 z es =>
     obtain ⟨sz, ag, hk, _, hn⟩ := isAggK_sound hT (show isAggK T e _ from hk)
     cases hb : Nat.beq sz z with
     | false => rw [hb] at hk; exact hk.elim
     | true =>
      rw [hb] at hk
      obtain ⟨⟨h0, h1⟩, hkk⟩ := hk
      have hzz := Nat.eq_of_beq_eq_true hb
      subst hzz
      refine ⟨_, _, _, hkk, fun w X σ h2 ρ d ty pos after guard hI ho hrd => ?_, by simp⟩
      have hb' : h2[b]? = some (.row T0 sz es) := (hrd b (by simp)).trans hb0
      have hr := hox w _ σ ρ ho
      have hr2 := hoi w _ σ ρ ho
      generalize hρ : ρ x = vx at hr
      generalize hρi : ρ i = vi at hr2
      cases hr2
      rcases row_of hI hb' with ⟨g, cap, vs, hσ, _⟩ | ⟨_, hes⟩
      ·cases hr with
       | sl h' =>
        rw [hσ] at h'
        simp at h'
        obtain ⟨rfl, rfl, rfl, rfl⟩ := h'
        refine .pure (v := .pointer (some ⟨g, n.toNat * sz, none⟩)) (run_val ?_) hI (by rw [show n.toNat * sz = n.toNat * sz + 0 from rfl]; exact .ep hσ)
        rw [hρ, hρi]
        simp [Instr.indexAt, asIntOf, run_underlying' hu, hn w, h0, h1, addr_add]
       | slN h' => rw [hσ] at h'; simp at h'
       | slD h' => rw [hσ] at h'; simp at h'
      ·subst hes; simp at h1; omega
    | _ => exact hk.elim
   | _ => exact hk.elim
  | _ => exact hk.elim
 | array len e =>
  have hu := und_array (ti_of hti (by simp)).1
  cases sx with
  | ptr b off =>
   cases si with
   | int q n =>
    obtain ⟨sz, ag, ⟨⟨h0, h1⟩, m, hnm, hk⟩, _, hn⟩ := isAggK_sound hT (show isAggK T e _ from hk)
    have hm : n.toNat = m := by omega
    rw [<- hm] at hk
    exact good_pure hk fun w E σ ρ d ty pos after guard ho => by
     have hr := hox w E σ ρ ho
     have hr2 := hoi w E σ ρ ho
     generalize hρ : ρ x = vx at hr
     generalize hρi : ρ i = vi at hr2
     cases hr2
     cases hr with
     | ptr h' => rename_i g; exact ⟨_, run_val (v := .pointer (some ⟨g, off + n.toNat * sz, none⟩)) (by rw [hρ, hρi]; simp [Instr.indexAt, asIntOf, run_underlying' hu, Instr.sureAddr, hn w, h0, h1, addr_add]), .ptr h'⟩
     | ptrD h' => rename_i g; exact ⟨_, run_val (v := .pointer (some ⟨g, off + n.toNat * sz, none⟩)) (by rw [hρ, hρi]; simp [Instr.indexAt, asIntOf, run_underlying' hu, Instr.sureAddr, hn w, h0, h1, addr_add]), .ptrD h'⟩
   | _ => exact hk.elim
  | _ => cases si <;> exact hk.elim
 | _ => cases sx <;> cases si <;> exact hk.elim
theorem makeFunc_ok {F : Fr} {h : Hp} {nid : Nat} {fn : Fn} {a b : Array Operand} {K : Kop} (hk : opK T F h nid (.makeFunc fn a b) K) : OpGood P F h (.makeFunc fn a b) K := by
 cases fn with
 | func f =>
  replace hk : (match Fn.func f, a.toList with | .func f, [] => evsK F b.toList fun l => K (.fn f l) [] [] | _, _ => False) := hk
  cases ha : a.toList with
  | nil =>
   rw [ha] at hk
   obtain ⟨ss, hkk, hs⟩ := evsK_sound hk
   have ha' : a = #[] := by simpa using ha
   exact good_pure hkk fun w E σ ρ d ty pos after guard ho => by
    have hr := hs w E σ ρ fun y hy => ho y (by simp [Op.operands]; exact .inr (by simpa using hy))
    refine ⟨.func (.func f) #[] (b.map ρ), run_val (m := Instr.makeFunc (.func f) (a.map ρ) (b.map ρ)) (by simp [Instr.makeFunc, ha']), .fn (by have := hr.1; simpa using this) fun j s v hs' hv => hr.2 j s v hs' ?_⟩
    rw [Array.getElem?_map] at hv
    rw [List.getElem?_map, Array.getElem?_toList]; exact hv
  | cons _ _ => rw [ha] at hk; exact hk.elim
 | _ => exact hk.elim
end
end Go.Sx

namespace Go.Sx
section
variable {P : Program} {T : Tab}
theorem boundK_sound {F : Fr} {x : Option Operand} {d : Nat} {k : Int -> Prop} (h : opK.boundK F x d k) :
  ∃ n : Int, k n /\ ((x = none /\ n = d) ∨ ∃ y, x = some y /\ ∀ (w : World) (E : Nat -> Prop) (σ : Sg) (ρ : Operand -> Value), OpnRep w E σ F ρ y -> ∃ q, ρ y = .int q n) := by
 cases x with
 | none => exact ⟨d, h, .inl ⟨rfl, rfl⟩⟩
 | some y =>
  obtain ⟨s, h, hs⟩ := evK_sound (show evK F y _ from h)
  cases s with
  | int q n => exact ⟨n, h, .inr ⟨y, rfl, fun w E σ ρ ho => ⟨q, by have := hs w E σ ρ ho; generalize ρ y = v at this; cases this; rfl⟩⟩⟩
  | _ => exact h.elim
theorem bounds_run {isSlice : Bool} {len cap : Nat} {lo hi : Option Operand} {l u : Int} {ρ : Operand -> Value} {w : World}
  (hl : (lo = none /\ l = 0) ∨ ∃ y, lo = some y /\ ∃ q, ρ y = .int q l) (hu : (hi = none /\ u = len) ∨ ∃ y, hi = some y /\ ∃ q, ρ y = .int q u) (h0 : 0 <= l) (h1 : l <= u) (h2 : u <= (cap : Int)) :
  (Instr.sliceBounds isSlice len cap (lo.map ρ) (hi.map ρ) none).run P w = .ok (l.toNat, u.toNat, cap) w := by
 have hb : ∀ (v : Value) (q : IntKind) (n : Int) (y : Nat) (c : BoundsCode), v = .int q n -> 0 <= n -> n <= (y : Int) -> (Instr.sliceBound v y c).run P w = .ok n.toNat w := by
  intro v q n y c hv h0 h1
  subst hv
  simp [Instr.sliceBound, asIntOf, h0, h1]
 unfold Instr.sliceBounds
 rcases hu with ⟨rfl, rfl⟩ | ⟨yh, rfl, qh, hyh⟩ <;> rcases hl with ⟨rfl, rfl⟩ | ⟨yl, rfl, ql, hyl⟩
 ·simp
 ·simp only [Option.map_none, Option.map_some, Sem.run_bind, Sem.run_pure, Result.andThen_ok, hb _ ql l len _ hyl h0 h1, Int.toNat_natCast]
 ·simp only [Option.map_none, Option.map_some, Sem.run_bind, Sem.run_pure, Result.andThen_ok, hb _ qh u cap _ hyh (by omega) h2]; rfl
 ·simp only [Option.map_some, Sem.run_bind, Sem.run_pure, Result.andThen_ok, hb _ qh u cap _ hyh (by omega) h2, hb _ ql l u.toNat _ hyl h0 (by omega)]
theorem slice_ok (hT : TabOK P T) {F : Fr} {h : Hp} {nid : Nat} {t : TypeId} {x : Operand} {lo hi mx : Option Operand} {K : Kop} (hk : opK T F h nid (.slice t x lo hi mx) K) : OpGood P F h (.slice t x lo hi mx) K := by
 replace hk := tyK_sound hT (show tyK T t _ from hk)
 obtain ⟨sx, hk, hx⟩ := evK_sound hk
 generalize hti : (teOf P t).ti = ti at hk
 cases mx with
 | some _ => exact hk.elim
 | none =>
  obtain ⟨l, hk, hl⟩ := boundK_sound hk
  have hlo : ∀ (w : World) (E : Nat -> Prop) (σ : Sg) (ρ : Operand -> Value), (∀ z ∈ (Op.slice t x lo hi none).operands.toList, OpnRep w E σ F ρ z) -> (lo = none /\ l = 0) ∨ ∃ y, lo = some y /\ ∃ q, ρ y = .int q l := fun w E σ ρ ho => by
   rcases hl with ⟨h1, h2⟩ | ⟨y, hy, hr⟩
   ·exact .inl ⟨h1, by simpa using h2⟩
   ·exact .inr ⟨y, hy, hr w E σ ρ (ho y (by subst hy; simp [Op.operands]))⟩
  cases ti with
  | str =>
   have hu := und_str (ti_of hti (by simp)).1
   cases sx with
   | str s =>
    obtain ⟨u, ⟨⟨h0, h1, h2⟩, hk⟩, hu'⟩ := boundK_sound (show opK.boundK F hi s.length _ from hk)
    exact good_pure hk fun w E σ ρ d ty pos after guard ho => by
     have hr := hx w E σ ρ (ho x (by simp [Op.operands]))
     generalize hρ : ρ x = vx at hr
     cases hr
     have hhi : (hi = none /\ u = s.length) ∨ ∃ y, hi = some y /\ ∃ q, ρ y = .int q u := by
      rcases hu' with h | ⟨y, hy, hr⟩
      ·exact .inl h
      ·exact .inr ⟨y, hy, hr w E σ ρ (ho y (by subst hy; simp [Op.operands]))⟩
     have hsz : (⟨s.toArray⟩ : ByteArray).size = s.length := by simp [ByteArray.size]
     have hb := bounds_run (P := P) (w := w) (isSlice := false) (len := s.length) (cap := s.length) (hlo w E σ ρ ho) hhi h0 h1 h2
     refine ⟨.string ⟨((s.take u.toNat).drop l.toNat).toArray⟩, run_val (m := Instr.sliceAt t (ρ x) (lo.map ρ) (hi.map ρ) none) ?_, .str⟩
     rw [hρ]
     simp only [Instr.sliceAt, Instr.slice, Sem.run_bind, run_underlying' hu, Result.andThen_ok, hsz, hb, Option.isSome_none, Bool.false_eq_true, if_false, Sem.run_pure]
     rw [Lib.extract_eq]
     have : (List.drop l.toNat s).take (u.toNat - l.toNat) = (s.take u.toNat).drop l.toNat := by rw [List.drop_take]
     simp only [this]
   | _ => exact hk.elim
  | slice e =>
   have hu := und_slice (ti_of hti (by simp)).1
   cases sx with
   | rs z es =>
    obtain ⟨sz, ag, hk, _, hn⟩ := isAggK_sound hT (show isAggK T e _ from hk)
    cases hb : Nat.beq sz z with
    | false => rw [hb] at hk; exact hk.elim
    | true =>
     rw [hb] at hk
     obtain ⟨u, ⟨⟨h0, h1, h2⟩, hkk⟩, hu'⟩ := boundK_sound (show opK.boundK F hi es.length _ from hk)
     have hzz := Nat.eq_of_beq_eq_true hb
     subst hzz
     exact good_pure hkk fun w E σ ρ d ty pos after guard ho => by
      have hr := hx w E σ ρ (ho x (by simp [Op.operands]))
      have hhi : (hi = none /\ u = es.length) ∨ ∃ y, hi = some y /\ ∃ q, ρ y = .int q u := by
       rcases hu' with h | ⟨y, hy, hr⟩
       ·exact .inl h
       ·exact .inr ⟨y, hy, hr w E σ ρ (ho y (by subst hy; simp [Op.operands]))⟩
      have hlen : ((es.take u.toNat).drop l.toNat).length = u.toNat - l.toNat := by simp; omega
      -- whatever address and capacity
      have key : ∀ (a : Option Addr) (c : Nat), es.length <= c -> c <= maxLen -> ρ x = .slice a es.length c ->
        Rep w E σ (.rs sz ((es.take u.toNat).drop l.toNat)) (.slice (if c = l.toNat then a else a.map (·.add (l.toNat * sz))) (u.toNat - l.toNat) (c - l.toNat)) ->
        ∃ v, (execOp ρ ⟨d, .slice t x lo hi none, ty, pos, after, guard⟩).run P w = .ok (.value v) w /\ Rep w E σ (.rs sz ((es.take u.toNat).drop l.toNat)) v := by
       intro a c hc hm hρ hrep
       have hb := bounds_run (P := P) (w := w) (isSlice := true) (len := es.length) (cap := c) (hlo w E σ ρ ho) hhi h0 h1 (by omega)
       refine ⟨_, run_val (m := Instr.sliceAt t (ρ x) (lo.map ρ) (hi.map ρ) none) ?_, hrep⟩
       rw [hρ]
       simp only [Instr.sliceAt, Instr.slice, Sem.run_bind, run_underlying' hu, Result.andThen_ok, hb, hn w, Sem.run_pure]
      generalize hρ : ρ x = vx at hr
      cases hr with
      | @rs0 _ _ a c hc =>
       refine key a c (by simp) hc hρ ?_
       have e0 : (([] : List (List SV)).take u.toNat).drop l.toNat = [] := by simp
       rw [e0]
       have : u.toNat - l.toNat = 0 := by simp at h2; omega
       rw [this]
       exact .rs0 (by omega)
      | @rs _ _ _ ad c val hc hm hE hlt hel hcell hone hrep =>
       refine key (some ad) c hc hm hρ ?_
       by_cases hnil : (es.take u.toNat).drop l.toNat = []
       ·rw [hnil] at hlen ⊢
        simp at hlen
        rw [<- hlen]
        exact .rs0 (by omega)
       ·have hpos : 0 < ((es.take u.toNat).drop l.toNat).length := List.length_pos_iff.2 hnil
        rw [if_neg (by omega), <- hlen]
        have hget : ∀ (i : Nat) (e' : List SV), ((es.take u.toNat).drop l.toNat)[i]? = some e' -> es[l.toNat + i]? = some e' := fun i e' he => by
         rw [List.getElem?_drop, List.getElem?_take] at he
         split at he
         ·exact he
         ·simp at he
        have hmul : ∀ i j, (ad.add (l.toNat * sz)).add (i * sz + j) = ad.add ((l.toNat + i) * sz + j) := fun i j => by
         rw [add_add, Nat.add_mul, Nat.add_assoc]
        refine .rs (ad := ad.add (l.toNat * sz)) (val := fun i j => val (l.toNat + i) j) (by omega) (by omega) (by rw [add_block]; exact hE) (by rw [add_block]; exact hlt)
         (fun i e' he => hel _ e' (hget i e' he)) (fun i e' j s he hs => by rw [hmul]; exact hcell _ e' j s (hget i e' he) hs) (fun i e' j s he hs => hone _ e' j s (hget i e' he) hs) fun i e' j s he hs => hrep _ e' j s (hget i e' he) hs
   | _ => exact hk.elim
  | _ => cases sx <;> exact hk.elim
theorem makeSlice_ok (hT : TabOK P T) {F : Fr} {h : Hp} {nid : Nat} (hf : h[nid]? = some .fresh) {t : TypeId} {x y : Operand} {K : Kop} (hk : opK T F h nid (.makeSlice t x y) K) : OpGood P F h (.makeSlice t x y) K := by
 replace hk := tyK_sound hT (show tyK T t _ from hk)
 generalize hti : (teOf P t).ti = ti at hk
 cases ti with
 | slice e =>
  replace hk := tyK_sound hT (show tyK T e _ from hk)
  obtain ⟨i, z, hi, hsize, hbytes, hz, hz1, hz3, hzsz, hk⟩ := info_of_zero hk
  obtain ⟨sx, hk, hx⟩ := evK_sound hk
  obtain ⟨sy, hk, hy⟩ := evK_sound hk
  have hu := und_slice (ti_of hti (by simp)).1
  obtain ⟨q1, n, q2, c, hsx, hsy, ⟨hc, h0, hb, h63, hpos⟩, hkk⟩ : ∃ q1 n q2 c, sx = .int q1 n /\ sy = .int q2 c /\ (c = n /\ 0 <= n /\ n * (teOf P e).bytes <= 281474976710656 /\ n <= 9223372036854775807 /\ 0 < (teOf P e).size) /\
    K (.sl nid) [(nid, .row e (teOf P e).size (List.replicate n.toNat (teOf P e).zero))] [nid] := by
   cases sx with
   | int q1 n => cases sy with
    | int q2 c => exact ⟨q1, n, q2, c, rfl, rfl, hk⟩
    | _ => exact hk.elim
   | _ => cases sy <;> exact hk.elim
  subst hsx; subst hsy; subst hc
  refine ⟨_, _, _, hkk, fun w X σ h2 ρ d ty pos after guard hI ho hrd => ?_, by simp⟩
  have hf' : h2[nid]? = some .fresh := (hrd nid (by simp)).trans hf
  have r1 := hx w _ σ ρ (ho x (by simp [Op.operands]))
  have r2 := hy w _ σ ρ (ho y (by simp [Op.operands]))
  generalize hρx : ρ x = vx at r1
  generalize hρy : ρ y = vy at r2
  cases r1; cases r2
  rw [hsize] at hpos ⊢
  rw [hbytes] at hb
  obtain ⟨n, rfl⟩ := Int.eq_ofNat_of_zero_le h0
  have hrun := run_make (P := P) w t e i z hu hi hz1 q1 q2 (n : Int) (n : Int) (by omega) (by omega) (by rw [Int.mul_comm]; exact hb) h63
  unfold OpRes DoneS
  rw [show execOp ρ ⟨d, .makeSlice t x y, ty, pos, after, guard⟩ = (do pure (.value (<- Instr.makeSlice t (ρ x) (ρ y)))) from rfl, hρx, hρy, run_val hrun]
  have hm : madeCells z.cells (n * i.size) = (Array.range (n * i.size)).map (z.cells[· % z.cells.size]!) ∨ n * i.size = 0 := by
   by_cases h0 : n * i.size = 0
   ·exact .inr h0
   ·exact .inl (by simp [madeCells])
  have := new_row hI hf' (t := e) (sz := i.size) (cap := n) (es := List.replicate n (z.cells.toList.map ofV)) (vs := madeCells z.cells (n * i.size)) (by simp) (by simp only [maxLen]; omega)
   (by rcases hm with hm | hm <;> simp [madeCells]) (by
    rcases hm with hm | hm
    ·rw [hm]; exact zeros_row hzsz hz3
    ·have : n = 0 := by rcases Nat.mul_eq_zero.1 hm with h | h <;> omega
     subst this; intro i e he; simp at he)
  simp only [List.length_replicate] at this
  simp only [Int.toNat_natCast, hz]
  exact this
 | _ => exact hk.elim
end
end Go.Sx

namespace Go.Sx
section
variable {P : Program} {T : Tab}
def Owns (w : World) (e : TypeId) (size : Nat) (v : Value) (n : Nat) (xs : List Value) : Prop :=
 xs.length = n * size /\ ((v = .slice none 0 0 /\ n = 0) ∨
  ∃ g cap cur, v = .slice (some ⟨g, 0, none⟩) n cap /\ RowAt w g cur e /\ n <= cap /\ cap <= maxLen /\ cur.size = cap * size /\ cur.toList.take (n * size) = xs)
def Grew (w : World) (e : TypeId) (size : Nat) (v : Value) (n m : Nat) (all : List Value) (v' : Value) (w' : World) : Prop :=
 (v = .slice none 0 0 /\ n + m = 0 /\ v' = .slice none 0 0 /\ w' = w) ∨
 (∃ g cap cur cur', v = .slice (some ⟨g, 0, none⟩) n cap /\ RowAt w g cur e /\ v' = .slice (some ⟨g, 0, none⟩) (n + m) cap /\ w' = w.setRow g cur' /\ cur'.size = cur.size /\ n + m <= cap /\ cap <= maxLen /\ cur.size = cap * size /\ cur'.toList.take ((n + m) * size) = all) ∨
 (∃ cap cur, v' = .slice (some ⟨w.heap.size, 0, none⟩) (n + m) cap /\ w' = w.drew.alloc (.cells cur e) /\ n + m <= cap /\ cap <= maxLen /\ cur.size = cap * size /\ cur.toList.take ((n + m) * size) = all)
theorem app_nil0 (w : World) (t u ty e : TypeId) (du : TypeDesc) (i : TypeInfo) (ht : P.underlying t = some (.slice e)) (hu : P.underlying u = some du) (hdu : (∃ e', du = .slice e') ∨ du = .string)
  (hi : P.info? e = some i) (x : Value) (hlen : ∀ w' : World, (Builtin.lenOf x).run P w' = .ok 0 w') (hfst : (Builtin.firstCells i.size 0 x).run P w = .ok #[] w) :
  (Builtin.append_ #[t, u] ty #[.slice none 0 0, x]).run P w = .ok (.slice none 0 0) w := by
 rcases hdu with ⟨e', rfl⟩ | rfl <;> simp [Builtin.append_, run_underlying ht, run_underlying hu, sizeOf, typeInfo, hi, hlen, hfst]
theorem app_nil (w : World) (t u ty e : TypeId) (du : TypeDesc) (i : TypeInfo) (z : Value) (ht : P.underlying t = some (.slice e)) (hu : P.underlying u = some du) (hdu : (∃ e', du = .slice e') ∨ du = .string)
  (hi : P.info? e = some i) (hz : i.zero = some z) (x : Value) (m : Nat) (news : List Value) (hlen : ∀ w' : World, (Builtin.lenOf x).run P w' = .ok m w') (hfst : (Builtin.firstCells i.size m x).run P w.drew = .ok news.toArray w.drew)
  (hn : m ≠ 0) (h63' : ¬ (9223372036854775807 < (m : Int))) (h48' : ¬ (281474976710656 < Builtin.nextslicecap m 0 * i.bytes)) :
  (Builtin.append_ #[t, u] ty #[.slice none 0 0, x]).run P w = .ok (.slice (some ⟨w.heap.size, 0, none⟩) m (grownCap w m 0 e)) (w.drew.alloc (.cells (news.toArray ++ Builtin.zeroCells z.cells (grownCap w m 0 e - m)) e)) := by
 rcases hdu with ⟨e', rfl⟩ | rfl <;> simp [Builtin.append_, run_underlying ht, run_underlying hu, sizeOf, typeInfo, zeroValue, hi, hz, hlen, hn, h63', h48', Question.forced, run_firstCells_none, hfst, newRow, grownCap]
theorem app_room (w : World) (t u ty e : TypeId) (du : TypeDesc) (i : TypeInfo) (ht : P.underlying t = some (.slice e)) (hu : P.underlying u = some du) (hdu : (∃ e', du = .slice e') ∨ du = .string)
  (hi : P.info? e = some i) (x : Value) (m : Nat) (news : List Value) (hlen : ∀ w' : World, (Builtin.lenOf x).run P w' = .ok m w') (hfst : (Builtin.firstCells i.size m x).run P w = .ok news.toArray w)
  (g n cap : Nat) (w' : World) (hroom : n + m <= cap) (hst : (storeCells ⟨g, n * i.size, none⟩ news 0).run P w = .ok () w') :
  (Builtin.append_ #[t, u] ty #[.slice (some ⟨g, 0, none⟩) n cap, x]).run P w = .ok (.slice (some ⟨g, 0, none⟩) (n + m) cap) w' := by
 rcases hdu with ⟨e', rfl⟩ | rfl <;> simp [Builtin.append_, run_underlying ht, run_underlying hu, sizeOf, typeInfo, hi, hlen, hroom, hfst, Addr.add_lit, hst]
theorem app_grow (w : World) (t u ty e : TypeId) (du : TypeDesc) (i : TypeInfo) (z : Value) (ht : P.underlying t = some (.slice e)) (hu : P.underlying u = some du) (hdu : (∃ e', du = .slice e') ∨ du = .string)
  (hi : P.info? e = some i) (hz : i.zero = some z) (x : Value) (m : Nat) (news : List Value) (hlen : ∀ w' : World, (Builtin.lenOf x).run P w' = .ok m w') (hfst : (Builtin.firstCells i.size m x).run P w.drew = .ok news.toArray w.drew)
  (g n cap : Nat) (xs : List Value) (hn : ¬ (n + m <= cap)) (h63' : ¬ (9223372036854775807 < ((n : Int) + (m : Int)))) (h48' : ¬ (281474976710656 < Builtin.nextslicecap (n + m) cap * i.bytes))
  (hfo : (Builtin.firstCells i.size n (.slice (some ⟨g, 0, none⟩) n cap)).run P w.drew = .ok xs.toArray w.drew) :
  (Builtin.append_ #[t, u] ty #[.slice (some ⟨g, 0, none⟩) n cap, x]).run P w = .ok (.slice (some ⟨w.heap.size, 0, none⟩) (n + m) (grownCap w (n + m) cap e))
   (w.drew.alloc (.cells (xs.toArray ++ news.toArray ++ Builtin.zeroCells z.cells (grownCap w (n + m) cap e - (n + m))) e)) := by
 rcases hdu with ⟨e', rfl⟩ | rfl
 all_goals
  simp [Builtin.append_, run_underlying ht, run_underlying hu, sizeOf, typeInfo, zeroValue, hi, hz, hlen, hn, h63', h48', Question.forced, hfst, hfo, newRow, grownCap]
  try (congr 2; apply Array.ext'; simp [List.append_assoc])
theorem run_append_gen (w : World) (e : TypeId) (i : TypeInfo) (z : Value) (hzs : z.cells.size = i.size) (f : Value -> Sem Value)
  (v : Value) (n : Nat) (xs : List Value) (hown : Owns w e i.size v n xs)
  (m : Nat) (news : List Value) (hl : news.length = m * i.size) (h1 : ∀ u ∈ news, u.oneCell' = true)
  (h63 : n + m <= maxLen) (hbytes : (n + m) * i.bytes <= 140737488355328)
  (R0 : m = 0 -> (f (.slice none 0 0)).run P w = .ok (.slice none 0 0) w)
  (R1 : m ≠ 0 -> ¬ (9223372036854775807 < (m : Int)) -> ¬ (281474976710656 < Builtin.nextslicecap m 0 * i.bytes) ->
   (f (.slice none 0 0)).run P w = .ok (.slice (some ⟨w.heap.size, 0, none⟩) m (grownCap w m 0 e)) (w.drew.alloc (.cells (news.toArray ++ Builtin.zeroCells z.cells (grownCap w m 0 e - m)) e)))
  (R2 : ∀ (g n cap : Nat) (w' : World), n + m <= cap -> (storeCells ⟨g, n * i.size, none⟩ news 0).run P w = .ok () w' -> (f (.slice (some ⟨g, 0, none⟩) n cap)).run P w = .ok (.slice (some ⟨g, 0, none⟩) (n + m) cap) w')
  (R3 : ∀ (g n cap : Nat) (xs : List Value), ¬ (n + m <= cap) -> ¬ (9223372036854775807 < ((n : Int) + (m : Int))) -> ¬ (281474976710656 < Builtin.nextslicecap (n + m) cap * i.bytes) ->
   (Builtin.firstCells i.size n (.slice (some ⟨g, 0, none⟩) n cap)).run P w.drew = .ok xs.toArray w.drew ->
   (f (.slice (some ⟨g, 0, none⟩) n cap)).run P w = .ok (.slice (some ⟨w.heap.size, 0, none⟩) (n + m) (grownCap w (n + m) cap e))
    (w.drew.alloc (.cells (xs.toArray ++ news.toArray ++ Builtin.zeroCells z.cells (grownCap w (n + m) cap e - (n + m))) e))) :
  ∃ v' w', (f v).run P w = .ok v' w' /\ Grew w e i.size v n m (xs ++ news) v' w' := by
 have hsmall : n + m <= 9223372036854775807 := by simp only [maxLen] at h63; omega
 have hlen' : (xs ++ news).length = (n + m) * i.size := by rw [List.length_append, hown.1, hl, Nat.add_mul]
 have grown : ∀ (old : Nat), old < n + m ->
   n + m <= grownCap w (n + m) old e /\ grownCap w (n + m) old e <= maxLen /\
   (xs.toArray ++ news.toArray ++ Builtin.zeroCells z.cells (grownCap w (n + m) old e - (n + m))).size = grownCap w (n + m) old e * i.size /\
   (xs.toArray ++ news.toArray ++ Builtin.zeroCells z.cells (grownCap w (n + m) old e - (n + m))).toList.take ((n + m) * i.size) = xs ++ news := by
  intro old ho
  have hge := grownCap_ge w (n + m) old e
  have hcm : grownCap w (n + m) old e <= maxLen := grownCap_le_maxLen w (n + m) old e h63
  refine ⟨hge, hcm, ?_, ?_⟩
  ·simp only [Array.size_append, List.size_toArray, size_zeroCells, hzs, hown.1, hl, <- Nat.add_mul]
   congr 1
   omega
  ·simp only [Array.toList_append, List.append_assoc]
   rw [<- List.append_assoc, <- hlen']
   exact List.take_left
 rcases hown.2 with ⟨rfl, rfl⟩ | ⟨g, cap, cur, rfl, hg, hnc, hcm, hcs, htake⟩
 ·have hx : xs = [] := List.eq_nil_of_length_eq_zero (by simpa using hown.1)
  subst hx
  by_cases hm : m = 0
  ·subst hm
   have hn : news = [] := List.eq_nil_of_length_eq_zero (by simpa using hl)
   subst hn
   refine ⟨.slice none 0 0, w, ?_, .inl ⟨rfl, rfl, rfl, rfl⟩⟩
   exact R0 rfl
  ·have hgr := grown 0 (by omega)
   simp only [Nat.zero_add, List.nil_append, Array.empty_append] at hgr ⊢
   have hn : m ≠ 0 := hm
   have h63' : ¬ (9223372036854775807 < (m : Int)) := by omega
   have h48' : ¬ (281474976710656 < Builtin.nextslicecap m 0 * i.bytes) := by
    rw [nextslicecap_zero (by omega)]
    have hb := hbytes
    simp only [Nat.zero_add] at hb
    omega
   refine ⟨_, _, ?_, .inr (.inr ⟨_, _, by rw [Nat.zero_add], rfl, by simpa using hgr.1, hgr.2.1, hgr.2.2.1, by simpa using hgr.2.2.2⟩)⟩
   exact R1 hn h63' h48'
 ·by_cases hroom : n + m <= cap
  ·have hfit : n * i.size + news.length <= cur.size := by rw [hl, hcs, <- Nat.add_mul]; exact Nat.mul_le_mul_right _ hroom
   have hst := run_storeCells_fr (P := P) g (n * i.size) e news 0 cur w hg (by simpa using hfit) h1
   simp only [Nat.add_zero] at hst
   refine ⟨.slice (some ⟨g, 0, none⟩) (n + m) cap, w.setRow g (cur.toList.take (n * i.size) ++ news ++ cur.toList.drop (n * i.size + news.length)).toArray, ?_,
    .inr (.inl ⟨g, cap, cur, _, rfl, hg, rfl, rfl, ?_, hroom, hcm, hcs, ?_⟩)⟩
   ·exact R2 g n cap _ hroom hst
   ·simp only [List.size_toArray, List.length_append, List.length_take, List.length_drop, Array.length_toList]
    omega
   ·rw [htake, <- hlen']
    exact List.take_left
  ·have holds : ∀ j u, xs[j]? = some u -> w.drew.cell? ((⟨g, 0, none⟩ : Addr).add j) = some u := by
    intro j u hj
    obtain ⟨fr, hg, _⟩ := hg
    rw [cell_at (w := w.drew) hg 0 j, Nat.zero_add]
    rw [<- htake, List.getElem?_take] at hj
    split at hj
    ·simpa using hj
    ·simp at hj
   have hn : ¬ (n + m <= cap) := hroom
   have h63' : ¬ (9223372036854775807 < ((n : Int) + (m : Int))) := by omega
   have h48' : ¬ (281474976710656 < Builtin.nextslicecap (n + m) cap * i.bytes) := by
    have := growslice_fits (old := cap) (need := n + m) (by omega) hbytes
    omega
   have hfo := run_firstCells_some (P := P) w.drew i.size n ⟨g, 0, none⟩ n cap xs hown.1 holds
   have hgr := grown cap (by omega)
   refine ⟨_, _, ?_, .inr (.inr ⟨_, _, rfl, rfl, hgr.1, hgr.2.1, hgr.2.2.1, hgr.2.2.2⟩)⟩
   exact R3 g n cap xs hn h63' h48' hfo
theorem run_append_any (w : World) (t u ty e : TypeId) (du : TypeDesc) (i : TypeInfo) (z : Value) (size bytes : Nat) (ht : P.underlying t = some (.slice e)) (hu : P.underlying u = some du) (hdu : (∃ e', du = .slice e') ∨ du = .string)
  (hi : P.info? e = some i) (hz : i.zero = some z) (hsize : i.size = size) (hby : i.bytes = bytes) (hzs : z.cells.size = size)
  (v : Value) (n : Nat) (xs : List Value) (hown : Owns w e size v n xs)
  (x : Value) (m : Nat) (news : List Value) (hl : news.length = m * size) (hlen : ∀ w' : World, (Builtin.lenOf x).run P w' = .ok m w')
  (hfst : ∀ w' : World, w'.heap = w.heap -> (Builtin.firstCells size m x).run P w' = .ok news.toArray w') (h1 : ∀ u ∈ news, u.oneCell' = true)
  (h63 : n + m <= maxLen) (hbytes : (n + m) * bytes <= 140737488355328) :
  ∃ v' w', (Builtin.append_ #[t, u] ty #[v, x]).run P w = .ok v' w' /\ Grew w e size v n m (xs ++ news) v' w' := by
 subst hsize
 subst hby
 have hd : w.drew.heap = w.heap := rfl
 exact run_append_gen w e i z hzs (fun v => Builtin.append_ #[t, u] ty #[v, x]) v n xs hown m news hl h1 h63 hbytes
  (fun h => by
   subst h
   have hn : news = [] := List.eq_nil_of_length_eq_zero (by simpa using hl)
   subst hn
   exact app_nil0 w t u ty e du i ht hu hdu hi x hlen (by simpa using hfst w rfl))
  (fun a b c => app_nil w t u ty e du i z ht hu hdu hi hz x m news hlen (hfst w.drew hd) a b c)
  (fun g n cap w' a b => app_room w t u ty e du i ht hu hdu hi x m news hlen (hfst w rfl) g n cap w' a b)
  (fun g n cap xs a b c d => app_grow w t u ty e du i z ht hu hdu hi hz x m news hlen (hfst w.drew hd) g n cap xs a b c d)
set_option linter.unusedSimpArgs false
theorem apz_nil0 (w : World) (t u ty e : TypeId) (q kk : IntKind) (i : TypeInfo) (ht : P.underlying t = some (.slice e)) (hu : P.underlying u = some (.int q)) (hi : P.info? e = some i) :
  (Builtin.append_ #[t, u] ty #[.slice none 0 0, .int kk 0]).run P w = .ok (.slice none 0 0) w := by
 have hw : IntKind.i64.wrap 0 = 0 := by decide
 simp [Builtin.append_, run_underlying ht, run_underlying hu, sizeOf, typeInfo, hi, asInt, asIntOf, hw]
theorem apz_nil (w : World) (t u ty e : TypeId) (q kk : IntKind) (i : TypeInfo) (z : Value) (ht : P.underlying t = some (.slice e)) (hu : P.underlying u = some (.int q))
  (hi : P.info? e = some i) (hz : i.zero = some z) (hpos : i.size ≠ 0) (m : Nat) (hw : IntKind.i64.wrap (m : Int) = m) (hm48 : ¬ (281474976710656 < (m : Int) * i.bytes))
  (hn : m ≠ 0) (h63' : ¬ (9223372036854775807 < (m : Int))) (h48' : ¬ (281474976710656 < Builtin.nextslicecap m 0 * i.bytes)) :
  (Builtin.append_ #[t, u] ty #[.slice none 0 0, .int kk (m : Int)]).run P w = .ok (.slice (some ⟨w.heap.size, 0, none⟩) m (grownCap w m 0 e)) (w.drew.alloc (.cells (Builtin.zeroCells z.cells m ++ Builtin.zeroCells z.cells (grownCap w m 0 e - m)) e)) := by
 have h0 : ¬ ((m : Int) < 0) := by omega
 simp [Builtin.append_, run_underlying ht, run_underlying hu, sizeOf, typeInfo, zeroValue, hi, hz, hn, asInt, asIntOf, hw, h0, hm48, h63', h48', Question.forced, run_firstCells_none, newRow, grownCap]
 exact fun h => absurd h (Nat.mul_ne_zero hn hpos)
theorem apz_room (w : World) (t u ty e : TypeId) (q kk : IntKind) (i : TypeInfo) (z : Value) (ht : P.underlying t = some (.slice e)) (hu : P.underlying u = some (.int q))
  (hi : P.info? e = some i) (hz : i.zero = some z) (hpos : i.size ≠ 0) (m : Nat) (hw : IntKind.i64.wrap (m : Int) = m) (hm48 : ¬ (281474976710656 < (m : Int) * i.bytes))
  (g n cap : Nat) (w' : World) (hroom : n + m <= cap) (hst : (storeCells ⟨g, n * i.size, none⟩ (Builtin.zeroCells z.cells m).toList 0).run P w = .ok () w') :
  (Builtin.append_ #[t, u] ty #[.slice (some ⟨g, 0, none⟩) n cap, .int kk (m : Int)]).run P w = .ok (.slice (some ⟨g, 0, none⟩) (n + m) cap) w' := by
 have h0 : ¬ ((m : Int) < 0) := by omega
 by_cases hn : m = 0
 ·subst hn
  have he : (Builtin.zeroCells z.cells 0).toList = [] := by simp [Builtin.zeroCells]
  rw [he] at hst
  simp [Builtin.append_, run_underlying ht, run_underlying hu, sizeOf, typeInfo, zeroValue, hi, hz, asInt, asIntOf, show IntKind.i64.wrap 0 = 0 from by decide, hpos, show n <= cap by omega, Addr.add_lit, hst]
 ·simp [Builtin.append_, run_underlying ht, run_underlying hu, sizeOf, typeInfo, zeroValue, hi, hz, hn, asInt, asIntOf, hw, h0, hm48, hroom, Addr.add_lit, hst]
  exact fun h => absurd h (Nat.mul_ne_zero hn hpos)
theorem apz_grow (w : World) (t u ty e : TypeId) (q kk : IntKind) (i : TypeInfo) (z : Value) (ht : P.underlying t = some (.slice e)) (hu : P.underlying u = some (.int q))
  (hi : P.info? e = some i) (hz : i.zero = some z) (hpos : i.size ≠ 0) (m : Nat) (hw : IntKind.i64.wrap (m : Int) = m) (hm48 : ¬ (281474976710656 < (m : Int) * i.bytes)) (hm0 : m ≠ 0)
  (g n cap : Nat) (xs : List Value) (hn : ¬ (n + m <= cap)) (h63' : ¬ (9223372036854775807 < ((n : Int) + (m : Int)))) (h48' : ¬ (281474976710656 < Builtin.nextslicecap (n + m) cap * i.bytes))
  (hfo : (Builtin.firstCells i.size n (.slice (some ⟨g, 0, none⟩) n cap)).run P w.drew = .ok xs.toArray w.drew) :
  (Builtin.append_ #[t, u] ty #[.slice (some ⟨g, 0, none⟩) n cap, .int kk (m : Int)]).run P w = .ok (.slice (some ⟨w.heap.size, 0, none⟩) (n + m) (grownCap w (n + m) cap e))
   (w.drew.alloc (.cells (xs.toArray ++ Builtin.zeroCells z.cells m ++ Builtin.zeroCells z.cells (grownCap w (n + m) cap e - (n + m))) e)) := by
 have h0 : ¬ ((m : Int) < 0) := by omega
 simp [Builtin.append_, run_underlying ht, run_underlying hu, sizeOf, typeInfo, zeroValue, hi, hz, hn, hm0, asInt, asIntOf, hw, h0, hm48, h63', h48', Question.forced, hfo, newRow, grownCap]
 exact fun h => absurd h (Nat.mul_ne_zero hm0 hpos)
theorem zeroCells_one {z : Value} (hone : ∀ v ∈ z.cells.toList, v.oneCell' = true) (m : Nat) : ∀ u ∈ (Builtin.zeroCells z.cells m).toList, u.oneCell' = true := by
 intro u hu
 simp only [Builtin.zeroCells, Array.toList_map, List.mem_map, Array.toList_range, List.mem_range] at hu
 obtain ⟨k, hk, rfl⟩ := hu
 have hp : 0 < z.cells.size := by
  rcases Nat.eq_zero_or_pos z.cells.size with h | h
  ·rw [h] at hk; simp at hk
  ·exact h
 have hlt : k % z.cells.size < z.cells.size := Nat.mod_lt _ hp
 rw [getElem!_pos z.cells _ hlt]
 exact hone _ (by simp)
theorem run_append_made (w : World) (t u ty e : TypeId) (q kk : IntKind) (i : TypeInfo) (z : Value) (ht : P.underlying t = some (.slice e)) (hu : P.underlying u = some (.int q))
  (hi : P.info? e = some i) (hz : i.zero = some z) (hpos : i.size ≠ 0) (hzs : z.cells.size = i.size) (hone : ∀ v ∈ z.cells.toList, v.oneCell' = true)
  (v : Value) (n : Nat) (xs : List Value) (hown : Owns w e i.size v n xs) (m : Nat)
  (h63 : n + m <= 4611686018427387903) (hbytes : (n + m) * i.bytes <= 140737488355328) :
  ∃ v' w', (Builtin.append_ #[t, u] ty #[v, .int kk (m : Int)]).run P w = .ok v' w' /\ Grew w e i.size v n m (xs ++ (Builtin.zeroCells z.cells m).toList) v' w' := by
 have hw : IntKind.i64.wrap (m : Int) = m := by rw [IntKind.wrap_i64]; omega
 have hle : m * i.bytes <= (n + m) * i.bytes := Nat.mul_le_mul_right _ (by omega)
 have hm48 : ¬ (281474976710656 < (m : Int) * i.bytes) := by
  have : ((m * i.bytes : Nat) : Int) = (m : Int) * i.bytes := by push_cast; rfl
  omega
 refine run_append_gen w e i z hzs (fun v => Builtin.append_ #[t, u] ty #[v, .int kk (m : Int)]) v n xs hown m _ (by simp [size_zeroCells, hzs]) (zeroCells_one hone m) (by simp only [maxLen]; omega) hbytes ?_ ?_ ?_ ?_
 ·intro h; subst h; exact apz_nil0 w t u ty e q kk i ht hu hi
 ·intro a b c; exact apz_nil w t u ty e q kk i z ht hu hi hz hpos m hw hm48 a b c
 ·intro g n cap w' a b; exact apz_room w t u ty e q kk i z ht hu hi hz hpos m hw hm48 g n cap w' a b
 ·intro g n cap xs a b c d
  by_cases hm0 : m = 0
  ·subst hm0
   have he : (Builtin.zeroCells z.cells 0) = #[] := by simp [Builtin.zeroCells]
   rw [he]
   have h0 : IntKind.i64.wrap 0 = 0 := by decide
   have a' : ¬ (n <= cap) := by simpa using a
   have b' : ¬ (9223372036854775807 < (n : Int)) := by simpa using b
   have c' : ¬ (281474976710656 < Builtin.nextslicecap n cap * i.bytes) := by simpa using c
   simp [Builtin.append_, run_underlying ht, run_underlying hu, sizeOf, typeInfo, zeroValue, hi, hz, a', asInt, asIntOf, h0, hpos, b', c', Question.forced, d, newRow, grownCap]
  ·simpa using apz_grow w t u ty e q kk i z ht hu hi hz hpos m hw hm48 hm0 g n cap xs a b c d
theorem new_row_at {w w' : World} {X : Nat -> Prop} {σ : Sg} {h2 : Hp} (hI : Inv w X σ h2) {nid : Nat} (hf : h2[nid]? = some .fresh) {t : TypeId} {sz cap : Nat} {es : List (List SV)} {vs : Array Value}
  (ho : w'.os = w.os) (ht : w'.tape = w.tape) (hout : w'.output = w.output) {o : Obj} (hw : w'.heap = w.heap.push o) (hat : RowAt w' w.heap.size vs t)
  (hcap : es.length <= cap) (hmax : cap <= maxLen) (hl : vs.size = cap * sz)
  (hc : ∀ (i : Nat) (e : List SV), es[i]? = some e -> e.length = sz /\ ∀ (j : Nat) (s : SV), e[j]? = some s -> ∃ v, vs[i * sz + j]? = some v /\ Rep w (Ex X σ) [] s v /\ v.oneCell' = true) :
  ∃ σ', Rep w' (Ex X σ') σ' (.sl nid) (.slice (some ⟨w.heap.size, 0, none⟩) es.length cap) /\ Inv w' X σ' (upd [(nid, .row t sz es)] h2) /\ Step σ.length w σ w' σ' /\ σ'.length = σ.length := by
 have hS := alloc_step (w' := w') hI hf (e := .row w.heap.size sz es.length cap) rfl ho ht hout hw
 have hσ := fresh_of hI hf
 have hlt : nid < σ.length := (List.getElem?_eq_some_iff.1 hσ).1
 refine ⟨σ.set nid (.row w.heap.size sz es.length cap), .sl (sz := sz) (by simp [hlt]), ?_, hS, by simp⟩
 rw [upd_one]
 refine alloc_inv (w' := w') hI hf (e := .row w.heap.size sz es.length cap) (b := .row t sz es) rfl ho ht hout hw ⟨rfl, rfl, hcap, hmax, vs, hat, hl, fun i e he => ⟨(hc i e he).1, fun j s hs => ?_⟩⟩
 obtain ⟨v, a, b, c⟩ := (hc i e he).2 j s hs
 exact ⟨v, a, b.step0 hS, c⟩
/-- What a source's cells are. -/
structure SrcOK (P : Program) (w : World) (E : Nat -> Prop) (z : Nat) (es : List (List SV)) (x : Value) (news : List Value) : Prop where
 len : news.length = es.length * z
 lenOf : ∀ w' : World, (Builtin.lenOf x).run P w' = .ok es.length w'
 first : ∀ w' : World, w'.heap = w.heap -> (Builtin.firstCells z es.length x).run P w' = .ok news.toArray w'
 one : ∀ u ∈ news, u.oneCell' = true
 row : ∀ (i : Nat) (e : List SV), es[i]? = some e -> e.length = z /\ ∀ (j : Nat) (s : SV), e[j]? = some s -> ∃ v, news[i * z + j]? = some v /\ Rep w E [] s v /\ v.oneCell' = true
theorem flat_get {α : Type} (f : Nat -> Nat -> α) (n z i j : Nat) (hi : i < n) (hj : j < z) : ((List.range (n * z)).map fun k => f (k / z) (k % z))[i * z + j]? = some (f i j) := by
 have hlt : i * z + j < n * z := by
  have := Nat.mul_le_mul_right z (show i + 1 <= n from hi)
  rw [Nat.succ_mul] at this; omega
 rw [List.getElem?_map, List.getElem?_range hlt]
 have h1 : (i * z + j) / z = i := by rw [Nat.mul_comm, Nat.mul_add_div (by omega), Nat.div_eq_of_lt hj]; omega
 have h2 : (i * z + j) % z = j := by rw [Nat.mul_comm, Nat.mul_add_mod]; exact Nat.mod_eq_of_lt hj
 simp [h1, h2]
theorem flat_inv {n z k : Nat} (h : k < n * z) : k / z < n /\ k % z < z /\ k / z * z + k % z = k := by
 have hz : 0 < z := by
  rcases Nat.eq_zero_or_pos z with rfl | h'
  ·simp at h
  ·exact h'
 exact ⟨Nat.div_lt_of_lt_mul (by rw [Nat.mul_comm]; exact h), Nat.mod_lt _ hz, by rw [Nat.mul_comm]; exact Nat.div_add_mod k z⟩
theorem srcK_sound (hT : TabOK P T) {h : Hp} {u e : TypeId} {z : Nat} {zs : List SV} {x : SV} {k : List (List SV) -> List Nat -> Prop} (hni : ∀ q, (teOf P u).ti ≠ .int q) (hk : srcK T h u e z zs x k) :
  ∃ es rd, k es rd /\ (∃ du, P.underlying u = some du /\ ((∃ e', du = .slice e') ∨ du = .string)) /\ ∀ (w : World) (X : Nat -> Prop) (σ : Sg) (h2 : Hp) (v : Value), Inv w X σ h2 -> (∀ i ∈ rd, h2[i]? = h[i]?) -> Rep w (Ex X σ) σ x v -> ∃ news, SrcOK P w (Ex X σ) z es v news := by
 have hk := tyK_sound hT (show tyK T u _ from hk)
 generalize hti : (teOf P u).ti = ti at hk
 have none_ok : ∀ (w : World) (E : Nat -> Prop) (a : Option Addr) (c : Nat), SrcOK P w E z [] (.slice a 0 c) [] := by
  intro w E a c
  refine ⟨by simp, fun w' => by simp [Builtin.lenOf], fun w' _ => ?_, by simp, by simp⟩
  cases a with
  | none => simp [Builtin.firstCells]
  | some a => exact run_firstCells_some w' z 0 a 0 c [] (by simp) (by simp)
 have of_cells : ∀ (w : World) (E : Nat -> Prop) (es : List (List SV)) (ad : Addr) (c : Nat) (val : Nat -> Nat -> Value), (∀ (i : Nat) (e : List SV), es[i]? = some e -> e.length = z) ->
   (∀ (i : Nat) (e : List SV) (j : Nat) (s : SV), es[i]? = some e -> e[j]? = some s -> w.cell? (ad.add (i * z + j)) = some (val i j) /\ (val i j).oneCell' = true /\ Rep w E [] s (val i j)) ->
   ∃ news, SrcOK P w E z es (.slice (some ad) es.length c) news := by
  intro w E es ad c val hl hc
  have hin : ∀ (k : Nat), k < es.length * z -> ∃ e s, es[k / z]? = some e /\ e[k % z]? = some s := by
   intro k hk
   obtain ⟨h1, h2, _⟩ := flat_inv hk
   have he := List.getElem?_eq_getElem h1
   exact ⟨_, _, he, List.getElem?_eq_getElem (by rw [hl _ _ he]; exact h2)⟩
  have hget : ∀ (k : Nat) (v : Value), ((List.range (es.length * z)).map fun k => val (k / z) (k % z))[k]? = some v -> k < es.length * z /\ v = val (k / z) (k % z) := by
   intro k v hv
   have hlt : k < es.length * z := by
    have := (List.getElem?_eq_some_iff.1 hv).1; simpa using this
   rw [List.getElem?_map, List.getElem?_range hlt] at hv
   exact ⟨hlt, by simpa using hv.symm⟩
  refine ⟨(List.range (es.length * z)).map fun k => val (k / z) (k % z), by simp, fun w' => by simp [Builtin.lenOf], fun w' hw => ?_, fun u hu => ?_, fun i e he => ⟨hl i e he, fun j s hs => ?_⟩⟩
  ·refine run_firstCells_some w' z es.length ad es.length c _ (by simp) fun k v hv => ?_
   obtain ⟨hlt, rfl⟩ := hget k v hv
   obtain ⟨e, s, he, hs⟩ := hin k hlt
   have := (hc _ e _ s he hs).1
   rw [(flat_inv hlt).2.2] at this
   rw [<- this]
   exact World.cell?_of_block (by rw [hw])
  ·obtain ⟨k, hk⟩ := List.mem_iff_getElem?.1 hu
   obtain ⟨hlt, rfl⟩ := hget k u hk
   obtain ⟨e, s, he, hs⟩ := hin k hlt
   exact (hc _ e _ s he hs).2.1
  ·obtain ⟨_, h2, h3⟩ := hc i e j s he hs
   have hj : j < z := by rw [<- hl i e he]; exact (List.getElem?_eq_some_iff.1 hs).1
   exact ⟨val i j, flat_get val es.length z i j (List.getElem?_eq_some_iff.1 he).1 hj, h3, h2⟩
 cases ti with
 | slice q =>
  have hu : ∃ du, P.underlying u = some du /\ ((∃ e', du = .slice e') ∨ du = .string) := ⟨_, und_slice (ti_of hti (by simp)).1, .inl ⟨_, rfl⟩⟩
  cases x with
  | nils =>
   refine ⟨_, _, hk, hu, fun w X σ h2 v _ _ hr => ?_⟩
   cases hr
   exact ⟨[], none_ok _ _ _ _⟩
  | rs q es =>
   obtain ⟨hq, hk2⟩ := eqNK_sound hk
   subst hq
   refine ⟨_, _, hk2, hu, fun w X σ h2 v _ _ hr => ?_⟩
   cases hr with
   | rs0 _ => exact ⟨[], none_ok _ _ _ _⟩
   | rs hc hm hE hlt hlen hcell hone hrep =>
    exact of_cells w _ es _ _ _ hlen fun i e j s he hs => ⟨hcell i e j s he hs, hone i e j s he hs, hrep i e j s he hs⟩
  | sl b =>
   obtain ⟨blk, hb, hk⟩ := nthK_sound (show nthK h b _ from hk)
   cases blk with
   | row t q es =>
    obtain ⟨hq, hk2⟩ := eqNK_sound hk
    subst hq
    refine ⟨_, _, hk2, hu, fun w X σ h2 v hI hrd hr => ?_⟩
    have hb' : h2[b]? = some (.row t q es) := (hrd b (by simp)).trans hb
    rcases row_of hI hb' with ⟨g, cap, vs, hσ, hcap, hmax, hg, hl, hrow⟩ | ⟨hσ, hes⟩
    ·cases hr with
     | sl h' =>
      rw [hσ] at h'; simp at h'; obtain ⟨rfl, rfl, rfl, rfl⟩ := h'
      refine of_cells w _ es _ _ (fun i j => (vs[i * q + j]?).getD Go.undef) (fun i e he => (hrow i e he).1) fun i e j s he hs => ?_
      obtain ⟨v, h1, h2, h3⟩ := (hrow i e he).2 j s hs
      obtain ⟨fr, hg, _⟩ := hg
      rw [cell_at hg, Nat.zero_add, h1]
      exact ⟨rfl, h3, h2⟩
     | slN h' => rw [hσ] at h'; simp at h'
     | slD h' => rw [hσ] at h'; simp at h'
    ·subst hes
     cases hr with
     | sl h' => rw [hσ] at h'; simp at h'
     | slN h' => exact ⟨[], none_ok _ _ _ _⟩
     | slD h' => rw [hσ] at h'; simp at h'
   | _ => exact hk.elim
  | _ => exact hk.elim
 | str =>
  have hu : ∃ du, P.underlying u = some du /\ ((∃ e', du = .slice e') ∨ du = .string) := ⟨_, und_str (ti_of hti (by simp)).1, .inr rfl⟩
  cases x with
  | str s =>
   have hk := tyK_sound hT (show tyK T e _ from hk)
   split at hk
   ·obtain ⟨hz, hk⟩ := eqNK_sound hk
    subst hz
    refine ⟨_, _, hk, hu, fun w X σ h2 v _ _ hr => ?_⟩
    cases hr
    refine ⟨s.map fun b => .int .u8 (b.toNat : Int), by simp, fun w' => by simp [Builtin.lenOf, ByteArray.size], fun w' _ => ?_, ?_, fun i e he => ?_⟩
    ·simp only [Builtin.firstCells, Sem.run_pure, List.length_map]
     congr 1
     apply Array.ext'
     simp [ByteArray.extract, ByteArray.copySlice]
    ·intro v hv
     obtain ⟨b, _, rfl⟩ := List.mem_map.1 hv
     rfl
    ·rw [List.getElem?_map] at he
     cases hb : s[i]? with
     | none => rw [hb] at he; simp at he
     | some b =>
      rw [hb] at he
      simp [byteCell] at he
      subst he
      refine ⟨rfl, fun j a hj => ?_⟩
      have hj0 : j = 0 := by
       have := (List.getElem?_eq_some_iff.1 hj).1; simpa using this
      subst hj0
      simp at hj
      subst hj
      exact ⟨.int .u8 (b.toNat : Int), by simp [hb], .int, rfl⟩
   ·exact hk.elim
  | _ => exact hk.elim
 | int q => exact absurd hti (hni q)
 | _ => cases x <;> exact hk.elim
theorem srcR_sound (hT : TabOK P T) {h : Hp} {t u e : TypeId} {x : SV} {k : List (List SV) -> List Nat -> Prop} {i : TypeInfo} {zv : Value} (hut : P.underlying t = some (.slice e)) (hi : P.info? e = some i) (hz : i.zero = some zv)
  (hone : ∀ v ∈ zv.cells.toList, v.oneCell' = true) (hzs : zv.cells.size = i.size) (hpos : 1 <= i.size) (hk : srcK T h u e i.size (zv.cells.toList.map ofV) x k) :
  ∃ es rd, k es rd /\ ∀ (w : World) (X : Nat -> Prop) (σ : Sg) (h2 : Hp) (v : Value), Inv w X σ h2 -> (∀ i ∈ rd, h2[i]? = h[i]?) -> Rep w (Ex X σ) σ x v -> ∃ news : List Value,
   (∀ (j : Nat) (a : List SV), es[j]? = some a -> a.length = i.size /\ ∀ (l : Nat) (s : SV), a[l]? = some s -> ∃ v, news[j * i.size + l]? = some v /\ Rep w (Ex X σ) [] s v /\ v.oneCell' = true) /\
   ∀ (ty : TypeId) (v0 : Value) (n : Nat) (xs : List Value), Owns w e i.size v0 n xs -> n + es.length <= 4611686018427387903 -> (n + es.length) * i.bytes <= 140737488355328 ->
    ∃ v' w', (Builtin.append_ #[t, u] ty #[v0, v]).run P w = .ok v' w' /\ Grew w e i.size v0 n es.length (xs ++ news) v' w' := by
 by_cases hq : ∃ q, (teOf P u).ti = .int q
 ·obtain ⟨q, hti⟩ := hq
  have hk := tyK_sound hT (show tyK T u _ from hk)
  rw [hti] at hk
  cases x with
  | int kk n =>
   obtain ⟨h0, hk⟩ : 0 <= n /\ k (List.replicate n.toNat (zv.cells.toList.map ofV)) [] := hk
   obtain ⟨m, rfl⟩ := Int.eq_ofNat_of_zero_le h0
   refine ⟨_, _, hk, fun w X σ h2 v _ _ hr => ?_⟩
   cases hr
   refine ⟨(Builtin.zeroCells zv.cells m).toList, fun j a ha => ?_, fun ty v0 n xs hown h1 h2 => ?_⟩
   ·obtain ⟨a1, a2⟩ := zeros_row (w := w) (E := Ex X σ) (n := m) hzs hone j a ha
    refine ⟨a1, fun l s hs => ?_⟩
    obtain ⟨v, b1, b2, b3⟩ := a2 l s hs
    refine ⟨v, ?_, b2, b3⟩
    rw [Array.getElem?_toList, Builtin.zeroCells, hzs]
    rw [hzs] at b1
    exact b1
   ·simp only [List.length_replicate, Int.toNat_natCast] at h1 h2 ⊢
    exact run_append_made w t u ty e q kk i zv hut (und_int (ti_of hti (by simp)).1) hi hz (by omega) hzs hone v0 n xs hown m h1 h2
  | _ => exact hk.elim
 ·obtain ⟨es, rd, h1, ⟨du, hdu, hdi⟩, h2⟩ := srcK_sound hT (fun q h => hq ⟨q, h⟩) hk
  refine ⟨es, rd, h1, fun w X σ h' v hI hrd hr => ?_⟩
  obtain ⟨news, hok⟩ := h2 w X σ h' v hI hrd hr
  exact ⟨news, hok.row, fun ty v0 n xs hown b1 b2 => run_append_any w t u ty e du i zv i.size i.bytes hut hdu hdi hi hz rfl rfl hzs v0 n xs hown v es.length news hok.len hok.lenOf hok.first hok.one (by simp only [maxLen]; omega) b2⟩
end
end Go.Sx

namespace Go.Sx
section
variable {P : Program} {T : Tab}
theorem size_mk (l : List UInt8) : (⟨l.toArray⟩ : ByteArray).size = l.length := by simp [ByteArray.size]
theorem repl1 {w : World} {E : Nat -> Prop} {σ : Sg} {s : SV} {vs : List Value} (h : RepL w E σ [s] vs) : ∃ v, vs = [v] /\ Rep w E σ s v := by
 obtain ⟨hl, hr⟩ := h
 match vs, hl with
 | [v], _ => exact ⟨v, rfl, hr 0 s v rfl rfl⟩
theorem repl2 {w : World} {E : Nat -> Prop} {σ : Sg} {s t : SV} {vs : List Value} (h : RepL w E σ [s, t] vs) : ∃ v u, vs = [v, u] /\ Rep w E σ s v /\ Rep w E σ t u := by
 obtain ⟨hl, hr⟩ := h
 match vs, hl with
 | [v, u], _ => exact ⟨v, u, rfl, hr 0 s v rfl rfl, hr 1 t u rfl rfl⟩
theorem repl3 {w : World} {E : Nat -> Prop} {σ : Sg} {s t r : SV} {vs : List Value} (h : RepL w E σ [s, t, r] vs) : ∃ v u x, vs = [v, u, x] /\ Rep w E σ s v /\ Rep w E σ t u /\ Rep w E σ r x := by
 obtain ⟨hl, hr⟩ := h
 match vs, hl with
 | [v, u, x], _ => exact ⟨v, u, x, rfl, hr 0 s v rfl rfl, hr 1 t u rfl rfl, hr 2 r x rfl rfl⟩
theorem map_of_list {xs : Array Operand} {ρ : Operand -> Value} {l : List Value} (h : xs.toList.map ρ = l) : xs.map ρ = l.toArray := by
 rw [<- h, <- Array.toList_map, Array.toArray_toList]
theorem exec_builtin (ρ : Operand -> Value) (d : Option Tmp) (b : Builtin) (xs : Array Operand) (ats : Array TypeId) (ty : TypeId) (pos : String) (after : Array Edge) (guard : Option (Nat × Bool)) :
  execOp ρ ⟨d, .call ⟨.builtin b, xs, ats⟩, ty, pos, after, guard⟩ = builtin b ats ty (xs.map fun | .const _ => true | _ => false) (xs.map ρ) := rfl
theorem drew_step {w : World} {X : Nat -> Prop} {σ : Sg} {h : Hp} (hI : Inv w X σ h) : Inv w.drew X σ h /\ Step σ.length w σ w.drew σ := by
 have hS : Step σ.length w σ w.drew σ := ⟨rfl, rfl, rfl, Nat.le_refl _, fun _ _ _ => rfl, fun _ h _ => h, fun _ _ _ h _ => .inl h⟩
 exact ⟨⟨hI.len, fun i b e hb he => (hI.ok i b e hb he).step hS (Nat.le_refl _) fun _ _ => rfl, hI.lt, hI.inj, hI.dis, hI.xlt⟩, hS⟩
theorem Inv.drop {w : World} {X : Nat -> Prop} {σ : Sg} {h : Hp} (hI : Inv w X σ h) (m b : Nat) : Inv w X (σ.set b .dead) (h.set b .dead) /\ Step m w σ w (σ.set b .dead) := by
 have hget : ∀ (i : Nat) (e : Ent), (σ.set b .dead)[i]? = some e -> (i = b /\ e = .dead) ∨ (i ≠ b /\ σ[i]? = some e) := by
  intro i e he
  rw [List.getElem?_set] at he
  by_cases hib : b = i
  ·rw [if_pos hib] at he
   split at he
   ·simp at he; exact .inl ⟨hib.symm, he.symm⟩
   ·simp at he
  ·rw [if_neg hib] at he; exact .inr ⟨fun e => hib e.symm, he⟩
 have hown : ∀ g, Owned (σ.set b .dead) g -> Owned σ g := by
  rintro g ⟨i, e, he, hg⟩
  rcases hget i e he with ⟨_, rfl⟩ | ⟨h1, h2⟩
  ·simp [Ent.blk] at hg
  ·exact ⟨i, e, h2, hg⟩
 have hS : Step m w σ w (σ.set b .dead) := ⟨rfl, rfl, rfl, Nat.le_refl _, fun _ _ _ => rfl, fun g ho _ => hown g ho, fun i e _ he hf => by
  rw [List.getElem?_set]
  by_cases hib : b = i
  ·rw [if_pos hib, if_pos (by rw [hib]; exact (List.getElem?_eq_some_iff.1 he).1)]; exact .inr rfl
  ·rw [if_neg hib]; exact .inl he⟩
 have hS' : Step σ.length w σ w (σ.set b .dead) := ⟨hS.os, hS.tape, hS.output, hS.size, hS.frame, hS.blks, fun i e _ he hf => by
  rw [List.getElem?_set]
  by_cases hib : b = i
  ·rw [if_pos hib, if_pos (by rw [hib]; exact (List.getElem?_eq_some_iff.1 he).1)]; exact .inr rfl
  ·rw [if_neg hib]; exact .inl he⟩
 refine ⟨⟨by simp [hI.len], fun i bl e hb he => ?_, fun i e g he hg => ?_, fun i j e e' g hi hj hg hg' => ?_, fun g hx ho => hI.dis g hx (hown g ho), hI.xlt⟩, hS⟩
 ·rcases hget i e he with ⟨rfl, rfl⟩ | ⟨h1, h2⟩
  ·rw [List.getElem?_set, if_pos rfl] at hb
   split at hb
   ·simp at hb; subst hb; trivial
   ·simp at hb
  ·rw [List.getElem?_set, if_neg (fun e => h1 e.symm)] at hb
   exact (hI.ok i bl e hb h2).step hS' (Nat.le_refl _) fun _ _ => rfl
 ·rcases hget i e he with ⟨_, rfl⟩ | ⟨_, h2⟩
  ·simp [Ent.blk] at hg
  ·exact hI.lt i e g h2 hg
 ·rcases hget i e hi with ⟨_, rfl⟩ | ⟨_, h2⟩
  ·simp [Ent.blk] at hg
  ·rcases hget j e' hj with ⟨_, rfl⟩ | ⟨_, h3⟩
   ·simp [Ent.blk] at hg'
   ·exact hI.inj i j e e' g h2 h3 hg hg'
theorem move_inv {w w' : World} {X : Nat -> Prop} {σ : Sg} {h : Hp} (hI : Inv w X σ h) {b nid g : Nat} {e e' : Ent} (hf : h[nid]? = some .fresh) (hb : σ[b]? = some e) (hg : e.blk = some g) (hg' : e'.blk = some g)
  (ho : w'.os = w.os) (ht : w'.tape = w.tape) (hout : w'.output = w.output) (hs : w'.heap.size = w.heap.size) (hw : ∀ k, k ≠ g -> w'.heap[k]? = w.heap[k]?) {bl : Blk}
  (hok : Step σ.length w σ w' ((σ.set nid e').set b .dead) -> BlkOK w' (Ex X ((σ.set nid e').set b .dead)) ((σ.set nid e').set b .dead) bl e') :
  Inv w' X ((σ.set nid e').set b .dead) ((h.set nid bl).set b .dead) /\ Step σ.length w σ w' ((σ.set nid e').set b .dead) := by
 have hσf := fresh_of hI hf
 have hnlt : nid < σ.length := (List.getElem?_eq_some_iff.1 hσf).1
 have hblt : b < σ.length := (List.getElem?_eq_some_iff.1 hb).1
 have hne : b ≠ nid := by
  rintro rfl
  rw [hσf] at hb
  simp at hb
  subst hb
  simp [Ent.blk] at hg
 have hget : ∀ (i : Nat) (a : Ent), ((σ.set nid e').set b .dead)[i]? = some a -> (i = b /\ a = .dead) ∨ (i = nid /\ a = e') ∨ (i ≠ b /\ i ≠ nid /\ σ[i]? = some a) := by
  intro i a ha
  rw [List.getElem?_set, List.getElem?_set] at ha
  by_cases hib : b = i
  ·rw [if_pos hib] at ha
   split at ha
   ·simp at ha; exact .inl ⟨hib.symm, ha.symm⟩
   ·simp at ha
  ·rw [if_neg hib] at ha
   by_cases hin : nid = i
   ·rw [if_pos hin, if_pos hnlt] at ha
    simp at ha
    exact .inr (.inl ⟨hin.symm, ha.symm⟩)
   ·rw [if_neg hin] at ha; exact .inr (.inr ⟨fun e => hib e.symm, fun e => hin e.symm, ha⟩)
 have hown : ∀ k, Owned ((σ.set nid e').set b .dead) k -> Owned σ k := by
  rintro k ⟨i, a, ha, hk⟩
  rcases hget i a ha with ⟨_, rfl⟩ | ⟨_, rfl⟩ | ⟨_, _, h2⟩
  ·simp [Ent.blk] at hk
  ·rw [hg'] at hk; simp at hk; subst hk; exact ⟨b, e, hb, hg⟩
  ·exact ⟨i, a, h2, hk⟩
 have hS : Step σ.length w σ w' ((σ.set nid e').set b .dead) := by
  refine ⟨ho, ht, hout, by omega, fun k _ hk => hw k fun e1 => hk (e1 ▸ ⟨b, e, hb, hg⟩), fun k hk _ => hown k hk, fun i a hi ha hfr => ?_⟩
  rw [List.getElem?_set, List.getElem?_set]
  by_cases hib : b = i
  ·rw [if_pos hib, if_pos (by simp [hblt])]; exact .inr rfl
  ·rw [if_neg hib]
   by_cases hin : nid = i
   ·subst hin; rw [hσf] at ha; simp at ha; exact absurd ha.symm hfr
   ·rw [if_neg hin]; exact .inl ha
 refine ⟨⟨by simp [hI.len], fun i c a hc ha => ?_, fun i a k ha hk => ?_, fun i j a a' k hi hj hk hk' => ?_, fun k hx ho' => hI.dis k hx (hown k ho'), fun k hx => by rw [hs]; exact hI.xlt k hx⟩, hS⟩
 ·rw [List.getElem?_set, List.getElem?_set] at hc
  rcases hget i a ha with ⟨rfl, rfl⟩ | ⟨rfl, rfl⟩ | ⟨h1, h2, h3⟩
  ·rw [if_pos rfl] at hc
   split at hc
   ·simp at hc; subst hc; trivial
   ·simp at hc
  ·rw [if_neg hne, if_pos rfl, if_pos (by rw [<- hI.len]; exact hnlt)] at hc
   simp at hc
   subst hc
   exact hok hS
  ·rw [if_neg (fun e => h1 e.symm), if_neg (fun e => h2 e.symm)] at hc
   refine (hI.ok i c a hc h3).step hS (Nat.le_refl _) fun k hk => hw k fun e1 => ?_
   subst e1
   exact h1 (hI.inj i b a e k h3 hb hk hg)
 ·rw [hs]
  rcases hget i a ha with ⟨_, rfl⟩ | ⟨_, rfl⟩ | ⟨_, _, h3⟩
  ·simp [Ent.blk] at hk
  ·rw [hg'] at hk; simp at hk; subst hk; exact hI.lt b e g hb hg
  ·exact hI.lt i a k h3 hk
 ·rcases hget i a hi with ⟨_, rfl⟩ | ⟨hi1, rfl⟩ | ⟨hib, hin, h3⟩
  ·simp [Ent.blk] at hk
  ·rcases hget j a' hj with ⟨_, rfl⟩ | ⟨hj1, _⟩ | ⟨hjb, hjn, h4⟩
   ·simp [Ent.blk] at hk'
   ·omega
   ·rw [hg'] at hk; simp at hk; subst hk
    exact absurd (hI.inj j b a' e g h4 hb hk' hg) hjb
  ·rcases hget j a' hj with ⟨_, rfl⟩ | ⟨hj1, rfl⟩ | ⟨hjb, hjn, h4⟩
   ·simp [Ent.blk] at hk'
   ·rw [hg'] at hk'; simp at hk'; subst hk'
    exact absurd (hI.inj i b a e g h3 hb hk hg) hib
   ·exact hI.inj i j a a' k h3 h4 hk hk'
def RowOKL (w : World) (E : Nat -> Prop) (sz : Nat) (es : List (List SV)) (vs : List Value) : Prop :=
 ∀ (i : Nat) (e : List SV), es[i]? = some e -> e.length = sz /\ ∀ (j : Nat) (s : SV), e[j]? = some s -> ∃ v, vs[i * sz + j]? = some v /\ Rep w E [] s v /\ v.oneCell' = true
theorem take_mul_get {z n m : Nat} {news : List Value} {vs : Array Value} {xs : List Value} (h : vs.toList.take ((n + m) * z) = xs ++ news) (k : Nat) (hk : k < (n + m) * z) : vs[k]? = (xs ++ news)[k]? := by
 rw [<- h, List.getElem?_take, if_pos hk, Array.getElem?_toList]
theorem append_ok (hT : TabOK P T) {F : Fr} {h : Hp} {nid : Nat} (hf : h[nid]? = some .fresh) {xs : Array Operand} {ats : Array TypeId} {K : Kop} (hk : opK T F h nid (.call ⟨.builtin .append, xs, ats⟩) K) : OpGood P F h (.call ⟨.builtin .append, xs, ats⟩) K := by
 obtain ⟨ss, hk1, hs⟩ := evsK_sound (show evsK F xs.toList _ from hk)
 clear hk
 have hos : ∀ (w : World) (E : Nat -> Prop) (σ : Sg) (ρ : Operand -> Value), (∀ z ∈ (Op.call ⟨.builtin .append, xs, ats⟩).operands.toList, OpnRep w E σ F ρ z) -> RepL w E σ ss (xs.toList.map ρ) := fun w E σ ρ ho => hs w E σ ρ fun y hy => ho y (by simp [Op.operands, Call.operands]; simpa using hy)
 cases hat : ats.toList with
 | nil => rw [hat] at hk1; exact hk1.elim
 | cons t l =>
  cases l with
  | nil => rw [hat] at hk1; exact hk1.elim
  | cons u l =>
   cases l with
   | cons _ _ => rw [hat] at hk1; exact hk1.elim
   | nil =>
    rw [hat] at hk1
    have hats : ats = #[t, u] := by rw [<- Array.toArray_toList (xs := ats), hat]
    subst hats
    have hk := tyK_sound hT (show tyK T t _ from hk1)
    clear hk1
    generalize hti : (teOf P t).ti = ti at hk
    cases ti with
    | slice e =>
     replace hk := tyK_sound hT (show tyK T e _ from hk)
     obtain ⟨i, z, hi, hsize, hbytes, hz, hz1, hz3, hzsz, hk⟩ := info_of_zero hk
     obtain ⟨hpos, hk⟩ := leNK_sound hk
     have hut := und_slice (ti_of hti (by simp)).1
     match ss, hk, hos with
     | [], hk, _ => exact hk.elim
     | [_], hk, _ => exact hk.elim
     | _ :: _ :: _ :: _, hk, _ => exact hk.elim
     | [s, x], hk, hos =>
      -- the destination
      obtain ⟨es, kill, rd, hk, hkill, hdst⟩ : ∃ es kill rd, (srcK T h u e (teOf P e).size (teOf P e).zero x fun ys rd' => (es.length + ys.length <= 4611686018427387903 /\ (es.length + ys.length) * (teOf P e).bytes <= 140737488355328) /\
        K (.sl nid) ((nid, .row e (teOf P e).size (es ++ ys)) :: kill) (nid :: (rd ++ rd'))) /\
        ((s = .nils /\ es = [] /\ kill = [] /\ rd = []) ∨ ∃ b, s = .sl b /\ kill = [(b, .dead)] /\ rd = [b] /\ h[b]? = some (.row e (teOf P e).size es)) /\ True := by
       cases s with
       | nils => exact ⟨_, _, _, hk, .inl ⟨rfl, rfl, rfl, rfl⟩, trivial⟩
       | sl b =>
        obtain ⟨blk, hb, hk⟩ := nthK_sound (show nthK h b _ from hk)
        cases blk with
        | row t0 q es =>
         obtain ⟨e1, hk⟩ := eqNK_sound hk
         obtain ⟨e2, hk2⟩ := eqNK_sound hk
         subst e1; subst e2
         exact ⟨_, _, _, hk2, .inr ⟨b, rfl, rfl, rfl, hb⟩, trivial⟩
        | _ => exact hk.elim
       | _ => exact hk.elim
      rw [hsize] at hpos hkill hk
      rw [hz] at hk
      obtain ⟨ys, rd', ⟨⟨hb1, hb2⟩, hk⟩, hsrc⟩ := srcR_sound hT hut hi hz1 hz3 hzsz hpos hk
      rw [hbytes] at hb2
      refine ⟨_, _, _, hk, fun w X σ h2 ρ d ty pos after guard hI ho hrd => ?_, ?_⟩
      ·have hf' : h2[nid]? = some .fresh := (hrd nid (by simp)).trans hf
       obtain ⟨v, y, hv, hr, hr'⟩ := repl2 (hos w _ σ ρ ho)
       obtain ⟨news, hok, happ⟩ := hsrc w X σ h2 y hI (fun j hj => hrd j (by simp [hj])) hr'
       unfold OpRes DoneS
       rw [exec_builtin, map_of_list hv, show builtin .append #[t, u] ty (xs.map fun | .const _ => true | _ => false) [v, y].toArray = (do pure (.value (<- Builtin.append_ #[t, u] ty #[v, y]))) from rfl]
       -- the new row's cells
       have cells : ∀ (ws : Array Value) (vs0 : List Value), vs0.length = es.length * i.size -> RowOKL w (Ex X σ) i.size es vs0 -> ws.toList.take ((es.length + ys.length) * i.size) = vs0 ++ news ->
         ∀ (k : Nat) (a : List SV), (es ++ ys)[k]? = some a -> a.length = i.size /\ ∀ (j : Nat) (q : SV), a[j]? = some q -> ∃ v, ws[k * i.size + j]? = some v /\ Rep w (Ex X σ) [] q v /\ v.oneCell' = true := by
        intro ws vs0 hl0 h0 htk k a ha
        have hkl : k < es.length + ys.length := by
         have := (List.getElem?_eq_some_iff.1 ha).1; simpa using this
        have hat : ∀ j, j < i.size -> ws[k * i.size + j]? = (vs0 ++ news)[k * i.size + j]? := fun j hj => by
         refine take_mul_get htk _ ?_
         have := Nat.mul_le_mul_right i.size (show k + 1 <= es.length + ys.length from hkl)
         rw [Nat.succ_mul] at this
         omega
        rw [List.getElem?_append] at ha
        by_cases hkes : k < es.length
        ·rw [if_pos hkes] at ha
         obtain ⟨h1, h2⟩ := h0 k a ha
         refine ⟨h1, fun j q hq => ?_⟩
         obtain ⟨v, h3, h4, h5⟩ := h2 j q hq
         have hj : j < i.size := by rw [<- h1]; exact (List.getElem?_eq_some_iff.1 hq).1
         refine ⟨v, ?_, h4, h5⟩
         rw [hat j hj, List.getElem?_append_left (List.getElem?_eq_some_iff.1 h3).1, h3]
        ·rw [if_neg hkes] at ha
         obtain ⟨h1, h2⟩ := hok _ a ha
         refine ⟨h1, fun j q hq => ?_⟩
         obtain ⟨v, h3, h4, h5⟩ := h2 j q hq
         have hj : j < i.size := by rw [<- h1]; exact (List.getElem?_eq_some_iff.1 hq).1
         refine ⟨v, ?_, h4, h5⟩
         have hle : es.length * i.size <= k * i.size := Nat.mul_le_mul_right _ (by omega)
         rw [hat j hj, List.getElem?_append_right (by rw [hl0]; omega), hl0]
         rw [show k * i.size + j - es.length * i.size = (k - es.length) * i.size + j by rw [Nat.sub_mul]; omega]
         exact h3
       -- a new row
       have fresh_row : ∀ (vs0 : List Value) (cap : Nat) (cur : Array Value), vs0.length = es.length * i.size -> RowOKL w (Ex X σ) i.size es vs0 -> es.length + ys.length <= cap -> cap <= maxLen -> cur.size = cap * i.size ->
         cur.toList.take ((es.length + ys.length) * i.size) = vs0 ++ news -> ∃ σ', Rep (w.drew.alloc (.cells cur e)) (Ex X σ') σ' (.sl nid) (.slice (some ⟨w.heap.size, 0, none⟩) (es.length + ys.length) cap) /\
          Inv (w.drew.alloc (.cells cur e)) X σ' (upd [(nid, .row e i.size (es ++ ys))] h2) /\ Step σ.length w σ (w.drew.alloc (.cells cur e)) σ' /\ σ'.length = σ.length := by
        intro vs0 cap cur hl0 h0 hc1 hc2 hc3 htk
        obtain ⟨hI', hS'⟩ := drew_step hI
        obtain ⟨σ', h1, h2', h3, h4⟩ := new_row hI' hf' (t := e) (sz := i.size) (cap := cap) (es := es ++ ys) (vs := cur) (by simpa using hc1) hc2 hc3 (fun k a ha => by
         obtain ⟨a1, a2⟩ := cells cur vs0 hl0 h0 htk k a ha
         exact ⟨a1, fun j q hq => by obtain ⟨v, b1, b2, b3⟩ := a2 j q hq; exact ⟨v, b1, b2.step0 hS', b3⟩⟩)
        rw [List.length_append] at h1
        exact ⟨σ', h1, h2', hS'.trans h3, h4⟩
       rcases hkill with ⟨rfl, rfl, rfl, rfl⟩ | ⟨b, rfl, rfl, rfl, hb⟩
       ·cases hr
        obtain ⟨v', w', hrun, hgrew⟩ := happ ty (.slice none 0 0) 0 [] ⟨by simp, .inl ⟨rfl, rfl⟩⟩ (by simpa using hb1) (by simpa using hb2)
        rw [run_val hrun]
        rcases hgrew with ⟨_, h0, rfl, rfl⟩ | ⟨g, cap, cur, cur', hv, _⟩ | ⟨cap, cur, rfl, rfl, h1, h2', h3, h4⟩
        ·have : ys = [] := List.eq_nil_of_length_eq_zero (by omega)
         subst this
         -- a nil row
         have hσ := fresh_of hI hf'
         have hlt : nid < σ.length := (List.getElem?_eq_some_iff.1 hσ).1
         have hown : ∀ g, Owned (σ.set nid .rownil) g -> Owned σ g := fun g hg => (owned_set g hg).resolve_left (by simp [Ent.blk])
         have hget : ∀ (j : Nat) (a : Ent), (σ.set nid .rownil)[j]? = some a -> (j = nid /\ a = .rownil) ∨ (j ≠ nid /\ σ[j]? = some a) := by
          intro j a ha
          rw [List.getElem?_set] at ha
          by_cases hj : nid = j
          ·rw [if_pos hj, if_pos hlt] at ha; simp at ha; exact .inl ⟨hj.symm, ha.symm⟩
          ·rw [if_neg hj] at ha; exact .inr ⟨fun e => hj e.symm, ha⟩
         have hS : Step σ.length w' σ w' (σ.set nid .rownil) := ⟨rfl, rfl, rfl, Nat.le_refl _, fun _ _ _ => rfl, fun g hg _ => hown g hg, fun j a _ ha hfr => by
          rw [List.getElem?_set]
          by_cases hj : nid = j
          ·subst hj; rw [hσ] at ha; simp at ha; exact absurd ha.symm hfr
          ·rw [if_neg hj]; exact .inl ha⟩
         refine ⟨σ.set nid .rownil, .slN (by simp [hlt]), ⟨by simp [upd_one, hI.len], fun j c a hc ha => ?_, fun j a g ha hg => ?_, fun j k a a' g hj hk hg hg' => ?_, fun g hx ho => hI.dis g hx (hown g ho), hI.xlt⟩, hS, by simp⟩
         ·rw [upd_one, List.getElem?_set] at hc
          rcases hget j a ha with ⟨rfl, rfl⟩ | ⟨h1, h2'⟩
          ·rw [if_pos rfl, if_pos (by rw [<- hI.len]; exact hlt)] at hc
           simp at hc; subst hc
           simp [BlkOK]
          ·rw [if_neg (fun e => h1 e.symm)] at hc
           exact (hI.ok j c a hc h2').step hS (Nat.le_refl _) fun _ _ => rfl
         ·rcases hget j a ha with ⟨_, rfl⟩ | ⟨_, h2'⟩
          ·simp [Ent.blk] at hg
          ·exact hI.lt j a g h2' hg
         ·rcases hget j a hj with ⟨_, rfl⟩ | ⟨_, h3⟩
          ·simp [Ent.blk] at hg
          ·rcases hget k a' hk with ⟨_, rfl⟩ | ⟨_, h4⟩
           ·simp [Ent.blk] at hg'
           ·exact hI.inj j k a a' g h3 h4 hg hg'
        ·simp at hv
        ·simp only [Nat.zero_add] at h1 h4 ⊢
         have := fresh_row [] cap cur (by simp) (fun k a ha => by simp at ha) (by simpa using h1) h2' h3 (by simpa using h4)
         simpa using this
       ·have hb' : h2[b]? = some (.row e i.size es) := (hrd b (by simp)).trans hb
        have hbn : b ≠ nid := by rintro rfl; rw [hb'] at hf'; simp at hf'
        rcases row_of hI hb' with ⟨g, cap, vs, hσ, hcap, hmax, hg, hl, hrow⟩ | ⟨hσ, hes⟩
        ·have hvv : v = .slice (some ⟨g, 0, none⟩) es.length cap := by
          cases hr with
          | sl h' => rw [hσ] at h'; simp at h'; obtain ⟨rfl, rfl, rfl, rfl⟩ := h'; rfl
          | slN h' => rw [hσ] at h'; simp at h'
          | slD h' => rw [hσ] at h'; simp at h'
         subst hvv
         have hvl : (vs.toList.take (es.length * i.size)).length = es.length * i.size := by
          have := Nat.mul_le_mul_right i.size hcap
          simp; omega
         have hrl : RowOKL w (Ex X σ) i.size es (vs.toList.take (es.length * i.size)) := by
          intro k a ha
          obtain ⟨h1, h2⟩ := hrow k a ha
          refine ⟨h1, fun j q hq => ?_⟩
          obtain ⟨v, h3, h4⟩ := h2 j q hq
          have hj : j < i.size := by rw [<- h1]; exact (List.getElem?_eq_some_iff.1 hq).1
          have hkl := (List.getElem?_eq_some_iff.1 ha).1
          have := Nat.mul_le_mul_right i.size (show k + 1 <= es.length from hkl)
          rw [Nat.succ_mul] at this
          exact ⟨v, by rw [List.getElem?_take, if_pos (by omega), Array.getElem?_toList]; exact h3, h4⟩
         obtain ⟨v', w', hrun, hgrew⟩ := happ ty (.slice (some ⟨g, 0, none⟩) es.length cap) es.length (vs.toList.take (es.length * i.size))
          ⟨hvl, .inr ⟨g, cap, vs, rfl, hg, hcap, hmax, hl, rfl⟩⟩ hb1 hb2
         rw [run_val hrun]
         rcases hgrew with ⟨hv, _⟩ | ⟨g1, cap1, cur, cur', hv, hat, rfl, rfl, hcs, h1, h2', h3, h4⟩ | ⟨cap', cur, rfl, rfl, h1, h2', h3, h4⟩
         ·simp at hv
         ·simp at hv
          obtain ⟨rfl, rfl⟩ := hv
          obtain ⟨f1, f2, f3, f4, f5⟩ := setRow_facts (w := w) (g := g) (cs := cur')
          have hm := move_inv (w' := w.setRow g cur') hI hf' hσ (e' := .row g i.size (es.length + ys.length) cap) rfl rfl f1 f2 f3 f4 f5 (bl := .row e i.size (es ++ ys)) fun hS =>
           ⟨rfl, by simp, by simpa using h1, hmax, cur', hat.set hcs, by rw [hcs, h3], fun k a ha => by
            obtain ⟨a1, a2⟩ := cells cur' _ hvl hrl h4 k a (by simpa using ha)
            exact ⟨a1, fun j q hq => by obtain ⟨v, b1, b2, b3⟩ := a2 j q hq; exact ⟨v, b1, b2.step0 hS, b3⟩⟩⟩
          refine ⟨_, .sl (sz := i.size) ?_, hm.1, hm.2, by simp⟩
          rw [List.getElem?_set, if_neg hbn, List.getElem?_set, if_pos rfl, if_pos]
          exact (List.getElem?_eq_some_iff.1 (fresh_of hI hf')).1
         ·obtain ⟨σ', a1, a2, a3, a4⟩ := fresh_row _ cap' cur hvl hrl h1 h2' h3 h4
          obtain ⟨b1, b2⟩ := a2.drop σ'.length b
          refine ⟨σ'.set b .dead, a1.step b2 (Nat.le_refl _), b1, a3.trans (by rw [<- a4]; exact b2), by simp [a4]⟩
        ·subst hes
         have hvv : v = .slice none 0 0 := by
          cases hr with
          | sl h' => rw [hσ] at h'; simp at h'
          | slN h' => rfl
          | slD h' => rw [hσ] at h'; simp at h'
         subst hvv
         obtain ⟨v', w', hrun, hgrew⟩ := happ ty (.slice none 0 0) 0 [] ⟨by simp, .inl ⟨rfl, rfl⟩⟩ (by simpa using hb1) (by simpa using hb2)
         rw [run_val hrun]
         rcases hgrew with ⟨_, h0, rfl, rfl⟩ | ⟨g, cap, cur, cur', hv, _⟩ | ⟨cap, cur, rfl, rfl, h1, h2', h3, h4⟩
         ·have : ys = [] := List.eq_nil_of_length_eq_zero (by omega)
          subst this
          -- the nil row goes on under the new number
          have hσn := fresh_of hI hf'
          have hnlt : nid < σ.length := (List.getElem?_eq_some_iff.1 hσn).1
          have hget : ∀ (j : Nat) (a : Ent), (σ.set nid .rownil)[j]? = some a -> (j = nid /\ a = .rownil) ∨ (j ≠ nid /\ σ[j]? = some a) := by
           intro j a ha
           rw [List.getElem?_set] at ha
           by_cases hj : nid = j
           ·rw [if_pos hj, if_pos hnlt] at ha; simp at ha; exact .inl ⟨hj.symm, ha.symm⟩
           ·rw [if_neg hj] at ha; exact .inr ⟨fun e => hj e.symm, ha⟩
          have hown : ∀ g, Owned (σ.set nid .rownil) g -> Owned σ g := fun g hg => (owned_set g hg).resolve_left (by simp [Ent.blk])
          have hS : Step σ.length w' σ w' (σ.set nid .rownil) := ⟨rfl, rfl, rfl, Nat.le_refl _, fun _ _ _ => rfl, fun g hg _ => hown g hg, fun j a _ ha hfr => by
           rw [List.getElem?_set]
           by_cases hj : nid = j
           ·subst hj; rw [hσn] at ha; simp at ha; exact absurd ha.symm hfr
           ·rw [if_neg hj]; exact .inl ha⟩
          have hI1 : Inv w' X (σ.set nid .rownil) (h2.set nid (.row e i.size [])) := by
           refine ⟨by simp [hI.len], fun j c a hc ha => ?_, fun j a g ha hg => ?_, fun j k a a' g hj hk hg hg' => ?_, fun g hx ho => hI.dis g hx (hown g ho), hI.xlt⟩
           ·rw [List.getElem?_set] at hc
            rcases hget j a ha with ⟨rfl, rfl⟩ | ⟨h1, h2'⟩
            ·rw [if_pos rfl, if_pos (by rw [<- hI.len]; exact hnlt)] at hc
             simp at hc; subst hc
             simp [BlkOK]
            ·rw [if_neg (fun e => h1 e.symm)] at hc
             exact (hI.ok j c a hc h2').step hS (Nat.le_refl _) fun _ _ => rfl
           ·rcases hget j a ha with ⟨_, rfl⟩ | ⟨_, h2'⟩
            ·simp [Ent.blk] at hg
            ·exact hI.lt j a g h2' hg
           ·rcases hget j a hj with ⟨_, rfl⟩ | ⟨_, h3⟩
            ·simp [Ent.blk] at hg
            ·rcases hget k a' hk with ⟨_, rfl⟩ | ⟨_, h4⟩
             ·simp [Ent.blk] at hg'
             ·exact hI.inj j k a a' g h3 h4 hg hg'
          obtain ⟨b1, b2⟩ := hI1.drop (σ.set nid .rownil).length b
          refine ⟨(σ.set nid .rownil).set b .dead, .slN ?_, by simpa [upd] using b1, hS.trans (by simpa using b2), by simp⟩
          rw [List.getElem?_set, if_neg hbn, List.getElem?_set, if_pos rfl, if_pos hnlt]
         ·simp at hv
         ·simp only [Nat.zero_add] at h1 h4
          obtain ⟨σ', a1, a2, a3, a4⟩ := fresh_row [] cap cur (by simp) (fun k a ha => by simp at ha) (by simpa using h1) h2' h3 (by simpa using h4)
          obtain ⟨b1, b2⟩ := a2.drop σ'.length b
          refine ⟨σ'.set b .dead, by simpa using a1.step b2 (Nat.le_refl _), b1, a3.trans (by rw [<- a4]; exact b2), by simp [a4]⟩
      ·intro p hp
       rcases hkill with ⟨_, _, rfl, rfl⟩ | ⟨b, _, rfl, rfl, _⟩
       ·simp at hp; subst hp; simp
       ·simp at hp
        rcases hp with rfl | rfl <;> simp
    | _ => exact hk.elim
theorem slB_slice (hT : TabOK P T) {t e : TypeId} (h : ∃ te, tabD T t = some te) (hti : (teOf P t).ti = .slice e) : slB T t = true := by
 obtain ⟨te, h⟩ := h
 unfold slB
 rw [h, hT t te h]
 simp only [hti]
theorem isByteK_sound (hT : TabOK P T) {e : TypeId} {k : Prop} (h : isByteK T e k) : P.underlying e = some (.int .u8) /\ k := by
 have h := tyK_sound hT (show tyK T e _ from h)
 split at h
 ·rename_i hei
  exact ⟨und_int (ti_of hei (by simp)).1, h⟩
 ·exact h.elim
theorem bytes_run (w : World) (a t e : TypeId) {E : Nat -> Prop} {σ : Sg} {v : Value} (ha : P.underlying a = some (.slice e)) (he : P.underlying e = some (.int .u8)) (ht : P.underlying t = some .string)
  (s : List UInt8) (hr : Rep w E σ (.rs 1 (s.map byteCell)) v) : (convert a t v).run P w = .ok (.string ⟨s.toArray⟩) w := by
 generalize hes : s.map byteCell = es at hr
 cases hr with
 | @rs0 _ _ ad c _ =>
  have : s = [] := by simpa using hes
  subst this
  cases ad with
  | none => rw [run_convert_bytes_nil w a e ha he 0 c t ht]; rfl
  | some ad => exact run_convert_bytes_back w a t e ad c [] ha he ht (by simp)
 | @rs _ _ _ ad c val hc hm hE hlt hlen hcell hone hrep =>
  subst hes
  rw [List.length_map]
  refine run_convert_bytes_back w a t e ad c s ha he ht fun j hj => ?_
  have h1 : (s.map byteCell)[j]? = some (byteCell s[j]) := by simp [hj]
  have h2 := hcell j _ 0 (.int .u8 (s[j].toNat : Int)) h1 rfl
  have h3 := hrep j _ 0 (.int .u8 (s[j].toNat : Int)) h1 rfl
  rw [show j * 1 + 0 = j by omega] at h2
  rw [h2]
  generalize val j 0 = q at h3
  cases h3
  rfl
theorem convert_ok (hT : TabOK P T) {F : Fr} {h : Hp} {nid : Nat} {a t : TypeId} {x : Operand} {K : Kop} (hf : allocs T (.convert a t x) = true -> h[nid]? = some .fresh) (hk : opK T F h nid (.convert a t x) K) : OpGood P F h (.convert a t x) K := by
 have hf : slB T t = true -> h[nid]? = some .fresh := hf
 obtain ⟨ta, hta0, hk1⟩ := tyK_get (show tyK T a _ from hk)
 obtain ⟨tt, htt0, hk2⟩ := tyK_get (show tyK T t _ from hk1)
 clear hk hk1
 obtain ⟨sx, hk, hx⟩ := evK_sound hk2
 clear hk2
 have hta1 := hT a ta hta0
 have htt1 := hT t tt htt0
 subst hta1; subst htt1
 generalize hta : (teOf P a).ti = ta at hk
 generalize htt : (teOf P t).ti = tt at hk
 have hsrc : ta ≠ .none -> (P.underlying a).isSome = true := fun hne => by
  have := (ti_of hta hne).1
  cases hu : P.underlying a with
  | none => simp [tiOf, hu] at this; exact absurd this.symm hne
  | some _ => rfl
 have key : ∀ k, tt = .int k -> ta ≠ .none -> ∀ q n, sx = .int q n -> K (.int k (k.wrap n)) [] [] -> OpGood P F h (.convert a t x) K := by
  intro k htk hne q n hs hkk
  subst htk; subst hs
  exact good_pure hkk fun w E σ ρ d ty pos after guard ho => by
   have h1 := hx w E σ ρ (ho x (by simp [Op.operands]))
   generalize hρ : ρ x = vx at h1
   cases h1
   refine ⟨_, run_val ?_, .int⟩
   rw [hρ]
   obtain ⟨da, hda⟩ := Option.isSome_iff_exists.1 (hsrc hne)
   simp [convert, run_underlying' hda, run_underlying' (und_int (ti_of htt (by simp)).1), Conv.intToInt]
 have toB : ∀ e, tt = .slice e -> ta = .str -> ∀ s, sx = .str s -> isByteK T e (s.length <= 4611686018427387903 /\ K (.sl nid) [(nid, .row e 1 (s.map byteCell))] [nid]) -> OpGood P F h (.convert a t x) K := by
  intro e hte hta' s hs hkk
  subst hte; subst hta'; subst hs
  obtain ⟨he, hsl, hkk⟩ := isByteK_sound hT hkk
  have hu := und_str (ti_of hta (by simp)).1
  have hd := und_slice (ti_of htt (by simp)).1
  refine ⟨_, _, _, hkk, fun w X σ h2 ρ d ty pos after guard hI ho hrd => ?_, by simp⟩
  have hf' : h2[nid]? = some .fresh := (hrd nid (by simp)).trans (hf (slB_slice hT ⟨_, htt0⟩ htt))
  have h1 := hx w _ σ ρ (ho x (by simp [Op.operands]))
  generalize hρ : ρ x = vx at h1
  cases h1
  unfold OpRes DoneS
  rw [show execOp ρ ⟨d, .convert a t x, ty, pos, after, guard⟩ = (do pure (.value (<- convert a t (ρ x)))) from rfl, hρ, run_val (run_bytes_of_string w a t e ⟨s.toArray⟩ hu hd he)]
  obtain ⟨hI', hS'⟩ := drew_step hI
  have hsz : (ByteArray.size ⟨s.toArray⟩) = s.length := by simp [ByteArray.size]
  rw [hsz]
  generalize hcap : grownCap w s.length 0 e = cap
  have hge : s.length <= cap := by rw [<- hcap]; exact grownCap_ge _ _ _ _
  have hcm : cap <= maxLen := by rw [<- hcap]; exact grownCap_le_maxLen _ _ _ _ (by simp only [maxLen]; omega)
  have hbs : (bytesRow ⟨s.toArray⟩ cap).size = cap := by simp [bytesRow, hsz]; omega
  have := new_row_at (w' := w.drew.alloc (.cells (bytesRow ⟨s.toArray⟩ cap) e ((bytesRow ⟨s.toArray⟩ cap).size, (bytesRow ⟨s.toArray⟩ cap).size + 1))) hI' hf' (t := e) (sz := 1) (cap := cap) (es := s.map byteCell) (vs := bytesRow ⟨s.toArray⟩ cap)
   rfl rfl rfl rfl ⟨_, heap_alloc_new w.drew _, fun k hk h => by have := h.1; simp only [] at this; omega, Nat.le_succ _⟩ (by simpa using hge) hcm (by rw [hbs]; omega) (fun i b hb => by
    rw [List.getElem?_map] at hb
    cases hi : s[i]? with
    | none => rw [hi] at hb; simp at hb
    | some c =>
     rw [hi] at hb
     simp [byteCell] at hb
     subst hb
     refine ⟨rfl, fun j q hj => ?_⟩
     have hj0 : j = 0 := by
      have := (List.getElem?_eq_some_iff.1 hj).1; simpa using this
     subst hj0
     simp at hj
     subst hj
     refine ⟨.int .u8 (c.toNat : Int), ?_, .int, rfl⟩
     have hil := (List.getElem?_eq_some_iff.1 hi).1
     have hce : s[i] = c := (List.getElem?_eq_some_iff.1 hi).2
     simp [bytesRow, Array.getElem?_append, hil, hce])
  rw [List.length_map] at this
  obtain ⟨σ', a1, a2, a3, a4⟩ := this
  exact ⟨σ', a1, a2, hS'.trans a3, a4⟩
 have ofB : ∀ e, ta = .slice e -> tt = .str -> ∀ es rd, P.underlying e = some (.int .u8) -> (StrG es fun s => K (.str s) [] rd) -> (∀ (w : World) (X : Nat -> Prop) (σ : Sg) (h2 : Hp) (v : Value), Inv w X σ h2 -> (∀ i ∈ rd, h2[i]? = h[i]?) -> Rep w (Ex X σ) σ sx v -> ∃ E, Rep w E σ (.rs 1 es) v) -> OpGood P F h (.convert a t x) K := by
  intro e hta' htt' es rd he hkk hrep
  subst hta'; subst htt'
  obtain ⟨s, rfl, hkk⟩ := hkk
  have hu := und_slice (ti_of hta (by simp)).1
  have hd := und_str (ti_of htt (by simp)).1
  refine ⟨_, _, _, hkk, fun w X σ h2 ρ d ty pos after guard hI ho hrd => ?_, by simp⟩
  obtain ⟨E, h1⟩ := hrep w X σ h2 _ hI hrd (hx w _ σ ρ (ho x (by simp [Op.operands])))
  exact .pure (run_val (bytes_run w a t e hu he hd s h1)) hI .str
 cases ta <;> cases tt <;> first | exact hk.elim | (cases sx <;> first | exact hk.elim | exact key _ rfl (by simp) _ _ rfl hk | exact toB _ rfl rfl _ rfl hk | skip)
 case slice.slice.sl e e2 b =>
  obtain ⟨he, hk⟩ := isByteK_sound hT hk
  obtain ⟨hat, hk⟩ := eqNK_sound hk
  obtain ⟨blk, hb, hk⟩ := nthK_sound (show nthK h b _ from hk)
  have hu := und_slice (ti_of hta (by simp)).1
  have hd := und_slice (ti_of htt (by simp)).1
  subst hat
  rw [hu] at hd
  simp at hd
  subst hd
  cases blk with
  | row t0 z es =>
   cases es with
   | nil => exact hk.elim
   | cons e0 es =>
    refine ⟨_, _, _, hk, fun w X σ h2 ρ d ty pos after guard hI ho hrd => ?_, by simp⟩
    have hb' : h2[b]? = some (.row t0 z (e0 :: es)) := (hrd b (by simp)).trans hb
    have hr := hx w _ σ ρ (ho x (by simp [Op.operands]))
    generalize hρ : ρ x = vx at hr
    rcases row_of hI hb' with ⟨g, cap, vs, hσ, hcap, hmax, hg, hl, hrow⟩ | ⟨hσ, hes⟩
    ·cases hr with
     | sl h' =>
      rw [hσ] at h'; simp at h'; obtain ⟨rfl, rfl, rfl, rfl⟩ := h'
      obtain ⟨fr, hgc, hfr, hle⟩ := hg
      have hsh : w.shape? g = some (t0, vs.size) := by unfold World.shape?; rw [hgc]
      have hrun : (convert a a (.slice (some ⟨g, 0, none⟩) (es.length + 1) cap)).run P w = .ok (.slice (some ⟨g, 0, none⟩) (es.length + 1) cap) (w.freeze ⟨g, vs.size, none⟩ 1) := by
       simp [convert, run_underlying' hu, run_underlying' he, markStringish, hsh]
      have hfz : w.freeze ⟨g, vs.size, none⟩ 1 = { w with heap := w.heap.modify g fun
       | .cells c elem (lo, hi) => .cells c elem (if lo == hi then (vs.size, vs.size + 1) else (min lo vs.size, max hi (vs.size + 1)))
       | o => o } := by unfold World.freeze; rw [if_neg (by decide)]; rfl
      have f1 : (w.freeze ⟨g, vs.size, none⟩ 1).os = w.os := by rw [hfz]
      have f2 : (w.freeze ⟨g, vs.size, none⟩ 1).tape = w.tape := by rw [hfz]
      have f3 : (w.freeze ⟨g, vs.size, none⟩ 1).output = w.output := by rw [hfz]
      have f4 : (w.freeze ⟨g, vs.size, none⟩ 1).heap.size = w.heap.size := by rw [hfz]; simp
      have f5 : ∀ k, k ≠ g -> (w.freeze ⟨g, vs.size, none⟩ 1).heap[k]? = w.heap[k]? := fun k hk => by
       rw [hfz]; simp [Array.getElem?_modify, Ne.symm hk]
      have f6 : (w.freeze ⟨g, vs.size, none⟩ 1).heap[g]? = some (.cells vs t0 (if fr.1 == fr.2 then (vs.size, vs.size + 1) else (min fr.1 vs.size, max fr.2 (vs.size + 1)))) := by
       rw [hfz]; simp [Array.getElem?_modify, hgc]
      have hS := write_step hσ rfl f1 f2 f3 f4 f5
      unfold OpRes DoneS
      rw [show execOp ρ ⟨d, .convert a a x, ty, pos, after, guard⟩ = (do pure (.value (<- convert a a (ρ x)))) from rfl, hρ, run_val hrun]
      refine ⟨σ, .sl hσ, ?_, hS, rfl⟩
      rw [upd_one]
      refine write_inv hI hσ rfl f1 f2 f3 f4 f5 ⟨rfl, rfl, hcap, hmax, vs, ⟨_, f6, fun k hk hc => ?_, ?_⟩, hl, fun i e he => ⟨(hrow i e he).1, fun j s hs => ?_⟩⟩
      ·have h3 := hfr k hk
       by_cases hq : fr.1 = fr.2
       ·simp [hq] at hc; omega
       ·simp [hq] at hc
        have h4 : vs.size <= fr.1 := by
         by_cases h5 : fr.1 < vs.size
         ·exact absurd ⟨Nat.le_refl _, by omega⟩ (hfr fr.1 h5)
         ·omega
        omega
      ·by_cases hq : fr.1 = fr.2
       ·simp [hq]
       ·simp [hq]; omega
      ·obtain ⟨v, a1, b1, c1⟩ := (hrow i e he).2 j s hs
       exact ⟨v, a1, b1.step0 hS, c1⟩
     | slN h' => rw [hσ] at h'; simp at h'
     | slD h' => rw [hσ] at h'; simp at h'
    ·simp at hes
  | _ => exact hk.elim
 case slice.str.nils e =>
  obtain ⟨he, hk⟩ := isByteK_sound hT hk
  refine ofB e rfl rfl [] [] he ⟨[], rfl, hk⟩ fun w X σ h2 v _ _ hr => ⟨fun _ => False, ?_⟩
  cases hr
  exact .rs0 (Nat.zero_le _)
 case slice.str.rs e z es =>
  obtain ⟨he, hk⟩ := isByteK_sound hT hk
  obtain ⟨hz, hk⟩ := eqNK_sound hk
  subst hz
  exact ofB e rfl rfl es [] he hk fun w X σ h2 v _ _ hr => ⟨_, hr⟩
 case slice.str.sl e b =>
  obtain ⟨he, hk⟩ := isByteK_sound hT hk
  obtain ⟨blk, hb, hk⟩ := nthK_sound (show nthK h b _ from hk)
  cases blk with
  | row t0 z es =>
   obtain ⟨hz, hk⟩ := eqNK_sound hk
   subst hz
   refine ofB e rfl rfl es [b] he hk fun w X σ h2 v hI hrd hr => ⟨fun _ => False, ?_⟩
   have hb' : h2[b]? = some (.row t0 1 es) := (hrd b (by simp)).trans hb
   rcases row_of hI hb' with ⟨g, cap, vs, hσ, hcap, hmax, hg, hl, hrow⟩ | ⟨hσ, hes⟩
   ·cases hr with
    | sl h' =>
     rw [hσ] at h'; simp at h'; obtain ⟨rfl, rfl, rfl, rfl⟩ := h'
     obtain ⟨fr, hg, _⟩ := hg
     refine .rs (val := fun i j => (vs[i * 1 + j]?).getD Go.undef) hcap hmax (fun h => h) (Array.getElem?_eq_some_iff.1 hg).1 (fun i e he => (hrow i e he).1) (fun i e j s he hs => ?_) (fun i e j s he hs => ?_) (fun i e j s he hs => ?_)
     all_goals obtain ⟨v, a, b, c⟩ := (hrow i e he).2 j s hs
     ·rw [cell_at hg, Nat.zero_add, a]; rfl
     ·rw [a]; exact c
     ·rw [a]; exact b.mono [] (fun _ _ _ => rfl) (Nat.le_refl _) (fun _ _ _ h => h.elim) (by simp)
    | slN h' => rw [hσ] at h'; simp at h'
    | slD h' => rw [hσ] at h'; simp at h'
   ·subst hes
    cases hr with
    | sl h' => rw [hσ] at h'; simp at h'
    | slN h' => exact .rs0 (Nat.zero_le _)
    | slD h' => rw [hσ] at h'; simp at h'
  | _ => exact hk.elim
end
end Go.Sx

namespace Go.Sx
section
variable {P : Program} {T : Tab}
theorem len_ok (hT : TabOK P T) {F : Fr} {h : Hp} {nid : Nat} {xs : Array Operand} {ats : Array TypeId} {K : Kop} (hk : opK T F h nid (.call ⟨.builtin .len, xs, ats⟩) K) : OpGood P F h (.call ⟨.builtin .len, xs, ats⟩) K := by
 obtain ⟨ss, hk, hs⟩ := evsK_sound (show evsK F xs.toList _ from hk)
 have hos : ∀ (w : World) (E : Nat -> Prop) (σ : Sg) (ρ : Operand -> Value), (∀ z ∈ (Op.call ⟨.builtin .len, xs, ats⟩).operands.toList, OpnRep w E σ F ρ z) -> RepL w E σ ss (xs.toList.map ρ) := fun w E σ ρ ho => hs w E σ ρ fun y hy => ho y (by simp [Op.operands, Call.operands]; simpa using hy)
 cases hat : ats.toList with
 | nil => rw [hat] at hk; exact hk.elim
 | cons t l =>
  cases l with
  | cons _ _ => rw [hat] at hk; exact hk.elim
  | nil =>
   rw [hat] at hk
   have hk2 := tyK_sound hT (show tyK T t _ from hk)
   generalize hti : (teOf P t).ti = ti at hk2
   clear hk
   have hats : ats = #[t] := by rw [<- Array.toArray_toList (xs := ats), hat]
   subst hats
   have hlen : ∀ {w : World} {ρ : Operand -> Value} {v : Value} {n : Int} {d : Option Tmp} {ty : TypeId} {pos : String} {after : Array Edge} {guard : Option (Nat × Bool)}, xs.toList.map ρ = [v] -> (Builtin.len_ #[t] ty #[v]).run P w = .ok (.int .i64 n) w ->
     (execOp ρ ⟨d, .call ⟨.builtin .len, xs, #[t]⟩, ty, pos, after, guard⟩).run P w = .ok (.value (.int .i64 n)) w := by
    intro w ρ v n d ty pos after guard hv hr
    rw [exec_builtin, map_of_list hv, BigFrame.builtin_len]
    exact run_val hr
   have one : ∀ s, ss = [s] -> ∀ (w : World) (E : Nat -> Prop) (σ : Sg) (ρ : Operand -> Value), (∀ z ∈ (Op.call ⟨.builtin .len, xs, #[t]⟩).operands.toList, OpnRep w E σ F ρ z) -> ∃ v, xs.toList.map ρ = [v] /\ Rep w E σ s v := by
    intro s hs' w E σ ρ ho
    subst hs'
    exact repl1 (hos w E σ ρ ho)
   split at hk2
   ·have hu := und_str (ti_of hti (by simp)).1
    exact good_pure hk2 fun w E σ ρ d ty pos after guard ho => by
     obtain ⟨v, hv, hr⟩ := one _ rfl w E σ ρ ho
     cases hr
     exact ⟨_, hlen hv (by simp [Builtin.len_, run_underlying' hu, goInt, size_mk]), .int⟩
   ·have hu := und_slice (ti_of hti (by simp)).1
    exact good_pure hk2 fun w E σ ρ d ty pos after guard ho => by
     obtain ⟨v, hv, hr⟩ := one _ rfl w E σ ρ ho
     cases hr
     exact ⟨_, hlen (n := 0) hv (by simp [Builtin.len_, run_underlying' hu, goInt]), .int⟩
   ·have hu := und_slice (ti_of hti (by simp)).1
    exact good_pure hk2 fun w E σ ρ d ty pos after guard ho => by
     obtain ⟨v, hv, hr⟩ := one _ rfl w E σ ρ ho
     cases hr with
     | rs0 _ => exact ⟨_, hlen (n := 0) hv (by simp [Builtin.len_, run_underlying' hu, goInt]), .int⟩
     | rs _ _ _ _ _ _ _ _ => exact ⟨_, hlen hv (by simp [Builtin.len_, run_underlying' hu, goInt]), .int⟩
   ·have hu := und_slice (ti_of hti (by simp)).1
    exact good_pure hk2 fun w E σ ρ d ty pos after guard ho => by
     obtain ⟨v, hv, hr⟩ := one _ rfl w E σ ρ ho
     cases hr with
     | ln => exact ⟨_, hlen hv (by simp [Builtin.len_, run_underlying' hu, goInt]), .int⟩
   ·rename_i e b
    have hu := und_slice (ti_of hti (by simp)).1
    obtain ⟨blk, hb0, hk⟩ := nthK_sound (show nthK h b _ from hk2)
    cases blk with
    | row T0 z es =>
     refine ⟨_, _, _, hk, fun w X σ h2 ρ d ty pos after guard hI ho hrd => ?_, by simp⟩
     have hb' : h2[b]? = some (.row T0 z es) := (hrd b (by simp)).trans hb0
     obtain ⟨v, hv, hr⟩ := one _ rfl w _ σ ρ ho
     rcases row_of hI hb' with ⟨g, cap, vs, hσ, _⟩ | ⟨hσ, hes⟩
     ·cases hr with
      | sl h' =>
       rw [hσ] at h'; simp at h'; obtain ⟨rfl, rfl, rfl, rfl⟩ := h'
       exact .pure (hlen hv (by simp [Builtin.len_, run_underlying' hu, goInt])) hI .int
      | slN h' => rw [hσ] at h'; simp at h'
      | slD h' => rw [hσ] at h'; simp at h'
     ·cases hr with
      | sl h' => rw [hσ] at h'; simp at h'
      | slN h' =>
       subst hes
       exact .pure (hlen (n := 0) hv (by simp [Builtin.len_, run_underlying' hu, goInt])) hI .int
      | slD h' => rw [hσ] at h'; simp at h'
    | _ => exact hk.elim
   ·exact hk2.elim
theorem minmax_ok {b : Builtin} (hb : b = .min ∨ b = .max) {F : Fr} {h : Hp} {nid : Nat} {xs : Array Operand} {ats : Array TypeId} {K : Kop} (hk : opK T F h nid (.call ⟨.builtin b, xs, ats⟩) K) : OpGood P F h (.call ⟨.builtin b, xs, ats⟩) K := by
 rcases hb with rfl | rfl
 ·obtain ⟨ss, hk, hs⟩ := evsK_sound (show evsK F xs.toList _ from hk)
  have hos : ∀ (w : World) (E : Nat -> Prop) (σ : Sg) (ρ : Operand -> Value), (∀ z ∈ (Op.call ⟨.builtin .min, xs, ats⟩).operands.toList, OpnRep w E σ F ρ z) -> RepL w E σ ss (xs.toList.map ρ) := fun w E σ ρ ho => hs w E σ ρ fun y hy => ho y (by simp [Op.operands, Call.operands]; simpa using hy)
  split at hk
  ·rename_i k x k' y
   exact good_pure hk fun w E σ ρ d ty pos after guard ho => by
    obtain ⟨v, u, hv, hr, hr'⟩ := repl2 (hos w E σ ρ ho)
    cases hr; cases hr'
    exact ⟨.int k (if y < x then y else x), by rw [exec_builtin, map_of_list hv, BigFrame.builtin_min]; exact run_val (by simp [Builtin.min_, Builtin.min2]), .int⟩
  ·rename_i k x k' y k'' z
   exact good_pure hk fun w E σ ρ d ty pos after guard ho => by
    obtain ⟨v, u, x', hv, hr, hr', hr''⟩ := repl3 (hos w E σ ρ ho)
    cases hr; cases hr'; cases hr''
    exact ⟨_, by rw [exec_builtin, map_of_list hv, BigFrame.builtin_min]; exact run_val (run_min_int3 w ats ty k k' k'' x y z), .int⟩
  ·exact hk.elim
 ·obtain ⟨ss, hk, hs⟩ := evsK_sound (show evsK F xs.toList _ from hk)
  have hos : ∀ (w : World) (E : Nat -> Prop) (σ : Sg) (ρ : Operand -> Value), (∀ z ∈ (Op.call ⟨.builtin .max, xs, ats⟩).operands.toList, OpnRep w E σ F ρ z) -> RepL w E σ ss (xs.toList.map ρ) := fun w E σ ρ ho => hs w E σ ρ fun y hy => ho y (by simp [Op.operands, Call.operands]; simpa using hy)
  split at hk
  ·rename_i k x k' y
   exact good_pure hk fun w E σ ρ d ty pos after guard ho => by
    obtain ⟨v, u, hv, hr, hr'⟩ := repl2 (hos w E σ ρ ho)
    cases hr; cases hr'
    exact ⟨.int k (if y > x then y else x), by rw [exec_builtin, map_of_list hv, BigFrame.builtin_max]; exact run_val (by simp [Builtin.max_, Builtin.max2]), .int⟩
  ·rename_i k x k' y k'' z
   exact good_pure hk fun w E σ ρ d ty pos after guard ho => by
    obtain ⟨v, u, x', hv, hr, hr', hr''⟩ := repl3 (hos w E σ ρ ho)
    cases hr; cases hr'; cases hr''
    exact ⟨_, by rw [exec_builtin, map_of_list hv, BigFrame.builtin_max]; exact run_val (run_max_int3 w ats ty k k' k'' x y z), .int⟩
  ·exact hk.elim
theorem opK_sound (hT : TabOK P T) {F : Fr} {h : Hp} {nid : Nat} {op : Op} {K : Kop} (hf : allocs T op = true -> h[nid]? = some .fresh) (hk : opK T F h nid op K) : OpGood P F h op K := by
 cases op with
 | move x => exact move_ok hk
 | assign x => exact assign_ok hk
 | pick c a b => exact pick_ok hk
 | alloc t => exact alloc_ok hT (hf rfl) hk
 | box t x => exact box_ok (hf rfl) hk
 | build t ps => exact build_ok hT hk
 | buildSlice t n ps => exact buildSlice_ok hT (hf rfl) hk
 | load t x => exact load_ok hT hk
 | store t x y => exact store_ok hT hk
 | nilCheck x => exact nilCheck_ok hk
 | binOp op t x y u => exact binOp_ok hT hk
 | unOp op t x => exact unOp_ok hk
 | convert a t x => exact convert_ok hT hf hk
 | makeFunc fn a b => exact makeFunc_ok hk
 | makeSlice t x y => exact makeSlice_ok hT (hf rfl) hk
 | slice t x lo hi mx => exact slice_ok hT hk
 | fieldAddr t x f => exact fieldAddr_ok hT hk
 | field t x f => exact field_ok hT hk
 | indexAddr t x i => exact indexAddr_ok hT hk
 | index t x i => exact index_ok hT hk
 | extract x i => exact extract_ok hk
 | call c =>
  obtain ⟨callee, xs, ats⟩ := c
  cases callee with
  | builtin b =>
   cases b with
   | len => exact len_ok hT hk
   | min => exact minmax_ok (.inl rfl) hk
   | max => exact minmax_ok (.inr rfl) hk
   | append => exact append_ok hT (hf rfl) hk
   | _ => exact hk.elim
  | _ => exact hk.elim
 | _ => exact hk.elim
end
end Go.Sx

namespace Go.Sx
section
variable {P : Program} {T : Tab}
theorem Step.any {m : Nat} {w w' : World} {σ σ' : Sg} (h : Step σ.length w σ w' σ') : Step m w σ w' σ' :=
 ⟨h.os, h.tape, h.output, h.size, h.frame, h.blks, fun i e _ he => h.ents i e (List.getElem?_eq_some_iff.1 he).1 he⟩
theorem wp_of_done {o : Oper} {a : Act} {w : World} {K : Act -> World -> Prop} {Q : Exit -> Act -> World -> Prop} {R : Value -> World -> Prop}
  (h : DoneS P (execOp a.eval o) w R) (hk : ∀ v w', R v w' -> K (a.put o.dst v) w') : o.wp P a w K Q := by
 unfold Oper.wp
 unfold DoneS at h
 generalize (execOp a.eval o).run P w = r at h
 cases r with
 | halt x w' => exact h.elim
 | ok n w' =>
  cases n <;> first | exact h.elim | skip
  case value v => exact hk v w' h
  case skip => exact hk Go.undef w' h
  case enter f args => exact h.mono fun e w'' ⟨v, he, hr⟩ => by subst he; exact hk v w'' hr
theorem FRep.set {w : World} {E : Nat -> Prop} {σ : Sg} {F : Fr} {tmps : Array Value} (h : FRep w E σ F tmps) {d : Nat} {s : SV} {v : Value} (hr : Rep w E σ s v) :
  FRep w E σ (F.set d s) (tmps.setIfInBounds d v) := by
 refine ⟨by simpa using h.1, fun i s' v' hs hv => ?_⟩
 rw [List.getElem?_set] at hs
 rw [Array.getElem?_setIfInBounds] at hv
 by_cases hi : d = i
 ·subst hi
  split at hs
  ·split at hs
   ·rename_i h1
    rw [if_pos rfl, if_pos (by rw [<- h.1]; exact h1)] at hv
    simp at hs hv; subst hs; subst hv; exact hr
   ·simp at hs
  ·rename_i hc; exact absurd rfl hc
 ·rw [if_neg hi] at hs hv
  exact h.2 i s' v' hs hv
theorem FRep.know {w : World} {E : Nat -> Prop} {σ : Sg} {F : Fr} {tmps : Array Value} (h : FRep w E σ F tmps) {d : Nat} {s : SV} (hr : ∀ v, tmps[d]? = some v -> Rep w E σ s v) :
  FRep w E σ (F.set d s) tmps := by
 refine ⟨by simpa using h.1, fun i s' v' hs hv => ?_⟩
 rw [List.getElem?_set] at hs
 by_cases hi : d = i
 ·subst hi
  split at hs
  ·split at hs
   ·simp at hs; subst hs; exact hr v' hv
   ·simp at hs
  ·rename_i hc; exact absurd rfl hc
 ·rw [if_neg hi] at hs
  exact h.2 i s' v' hs hv
theorem FRep.get {w : World} {E : Nat -> Prop} {σ : Sg} {F : Fr} {tmps : Array Value} (h : FRep w E σ F tmps) {d : Nat} {s : SV} (hs : F[d]? = some s) : ∃ v, tmps[d]? = some v /\ Rep w E σ s v := by
 have hlt : d < tmps.size := by rw [<- h.1]; exact (List.getElem?_eq_some_iff.1 hs).1
 exact ⟨_, Array.getElem?_eq_getElem hlt, h.2 d s _ hs (Array.getElem?_eq_getElem hlt)⟩
theorem FRep.opn {w : World} {E : Nat -> Prop} {σ : Sg} {F : Fr} {a : Act} (h : FRep w E σ F a.tmps) (x : Operand) : OpnRep w E σ F a.eval x := by
 cases x with
 | tmp t =>
  intro s hs
  obtain ⟨v, hv, hr⟩ := h.get hs
  have : a.eval (.tmp t) = v := by simp [Act.eval, Array.getD_eq_getD_getElem?, hv]
  rw [this]; exact hr
 | const v => rfl
 | global g => rfl
 | func f => rfl
theorem putD_sound {F : Fr} {d : Option Tmp} {s : SV} {K : Fr -> Prop} (h : putD F d s K) : ∃ F', K F' /\
  ∀ (w : World) (E : Nat -> Prop) (σ : Sg) (a : Act) (v : Value), FRep w E σ F a.tmps -> Rep w E σ s v -> FRep w E σ F' (a.put d v).tmps /\ (a.put d v).defers = a.defers := by
 cases d with
 | none => exact ⟨F, h, fun w E σ a v hF _ => ⟨hF, rfl⟩⟩
 | some d =>
  obtain ⟨_, h⟩ := setK_sound (show setK F d s K from h)
  exact ⟨_, h, fun w E σ a v hF hr => ⟨hF.set hr, rfl⟩⟩
theorem updK_sound {ws : Ws} : ∀ {h : Hp} {K : Hp -> Prop}, updK ws h K -> K (upd ws h) := by
 induction ws with
 | nil => intro h K hk; exact hk
 | cons p ws ih =>
  intro h K hk
  obtain ⟨_, hk⟩ := setK_sound (show setK h p.1 p.2 _ from hk)
  exact ih hk
theorem Inv.fresh {w : World} {X : Nat -> Prop} {σ : Sg} {h : Hp} (hI : Inv w X σ h) : Inv w X (σ ++ [.fresh]) (h ++ [.fresh]) /\ Step σ.length w σ w (σ ++ [.fresh]) := by
 have hown : ∀ g, Owned (σ ++ [.fresh]) g ↔ Owned σ g := by
  intro g
  constructor
  ·rintro ⟨i, e, he, hg⟩
   rw [List.getElem?_append] at he
   split at he
   ·exact ⟨i, e, he, hg⟩
   ·have : e = .fresh := by
     have := List.mem_of_getElem? he
     simpa using this
    subst this; simp [Ent.blk] at hg
  ·rintro ⟨i, e, he, hg⟩
   exact ⟨i, e, by rw [List.getElem?_append_left (List.getElem?_eq_some_iff.1 he).1]; exact he, hg⟩
 have hS : Step σ.length w σ w (σ ++ [.fresh]) := ⟨rfl, rfl, rfl, Nat.le_refl _, fun _ _ _ => rfl, fun g hg _ => (hown g).1 hg, fun i e hi he _ => .inl (by rw [List.getElem?_append_left hi]; exact he)⟩
 have hget : ∀ (i : Nat) (e : Ent) (g : Nat), (σ ++ [.fresh])[i]? = some e -> e.blk = some g -> σ[i]? = some e := by
  intro i e g he hg
  rw [List.getElem?_append] at he
  split at he
  ·exact he
  ·have : e = .fresh := by
    have := List.mem_of_getElem? he
    simpa using this
   subst this; simp [Ent.blk] at hg
 refine ⟨⟨by simp [hI.len], fun i b e hb he => ?_, fun i e g he hg => hI.lt i e g (hget i e g he hg) hg, fun i j e e' g h1 h2 g1 g2 => hI.inj i j e e' g (hget i e g h1 g1) (hget j e' g h2 g2) g1 g2, fun g hx ho => hI.dis g hx ((hown g).1 ho), hI.xlt⟩, hS⟩
 rw [List.getElem?_append] at hb he
 by_cases hi : i < h.length
 ·rw [if_pos hi] at hb
  rw [if_pos (by rw [hI.len]; exact hi)] at he
  exact (hI.ok i b e hb he).step hS (Nat.le_refl _) fun _ _ => rfl
 ·rw [if_neg hi] at hb
  rw [if_neg (by rw [hI.len]; exact hi)] at he
  have e1 : b = .fresh := by have := List.mem_of_getElem? hb; simpa using this
  have e2 : e = .fresh := by have := List.mem_of_getElem? he; simpa using this
  subst e1; subst e2; trivial
theorem oneK_sound (hT : TabOK P T) {F : Fr} {h : Hp} {op : Op} {K : SV -> Hp -> Prop} (hk : oneK P T F h op K)
  {w : World} {X : Nat -> Prop} {σ : Sg} {a : Act} (hI : Inv w X σ h) (hF : FRep w (Ex X σ) σ F a.tmps) (d : Option Tmp) (ty : TypeId) (pos : String) (after : Array Edge) (guard : Option (Nat × Bool)) :
  DoneS P (execOp a.eval ⟨d, op, ty, pos, after, guard⟩) w fun v w' => ∃ s h' σ', K s h' /\ Rep w' (Ex X σ') σ' s v /\ Inv w' X σ' h' /\ Step σ.length w σ w' σ' := by
 have plain : (match allocs T op with
  | true => idK h supply fun n => appK h [.fresh] fun h' => opK T F h' n op fun s ws _ => updK ws h' fun h'' => K s h''
  | false => opK T F h 0 op fun s ws _ => updK ws h fun h'' => K s h'') ->
  DoneS P (execOp a.eval ⟨d, op, ty, pos, after, guard⟩) w fun v w' => ∃ s h' σ', K s h' /\ Rep w' (Ex X σ') σ' s v /\ Inv w' X σ' h' /\ Step σ.length w σ w' σ' := by
  intro hk
  cases hal : allocs T op with
  | true =>
   rw [hal] at hk
   obtain ⟨n, hn, hk⟩ := idK_sound hk
   have hn := supply_get hn
   subst hn
   have hk := appK_sound hk
   obtain ⟨s, ws, rds, hk, hok, _⟩ := opK_sound hT (fun _ => by simp) hk
   obtain ⟨hI', hS'⟩ := hI.fresh
   have hF' := hF.step hS' (Nat.le_refl _)
   have := hok w X _ _ a.eval d ty pos after guard hI' (fun x _ => hF'.opn x) (fun _ _ => rfl)
   unfold OpRes DoneS at this
   unfold DoneS
   revert this
   generalize (execOp a.eval ⟨d, op, ty, pos, after, guard⟩).run P w = r
   intro this
   cases r with
   | halt x w' => exact this.elim
   | ok n w' =>
    cases n <;> first | exact this.elim | skip
    case value v =>
     obtain ⟨σ', h1, h2, h3, _⟩ := this
     exact ⟨s, _, σ', updK_sound hk, h1, h2, hS'.trans h3.any⟩
    case skip =>
     obtain ⟨σ', h1, h2, h3, _⟩ := this
     exact ⟨s, _, σ', updK_sound hk, h1, h2, hS'.trans h3.any⟩
    case enter f args =>
     refine this.mono fun e w'' ⟨v, he, σ', h1, h2, h3, _⟩ => ⟨v, he, s, _, σ', updK_sound hk, h1, h2, hS'.trans h3.any⟩
  | false =>
   rw [hal] at hk
   obtain ⟨s, ws, rds, hk, hok, _⟩ := opK_sound hT (fun h => by simp [hal] at h) hk
   have := hok w X _ _ a.eval d ty pos after guard hI (fun x _ => hF.opn x) (fun _ _ => rfl)
   unfold OpRes DoneS at this
   unfold DoneS
   revert this
   generalize (execOp a.eval ⟨d, op, ty, pos, after, guard⟩).run P w = r
   intro this
   cases r with
   | halt x w' => exact this.elim
   | ok n w' =>
    cases n <;> first | exact this.elim | skip
    case value v =>
     obtain ⟨σ', h1, h2, h3, _⟩ := this
     exact ⟨s, _, σ', updK_sound hk, h1, h2, h3⟩
    case skip =>
     obtain ⟨σ', h1, h2, h3, _⟩ := this
     exact ⟨s, _, σ', updK_sound hk, h1, h2, h3⟩
    case enter f args =>
     refine this.mono fun e w'' ⟨v, he, σ', h1, h2, h3, _⟩ => ⟨v, he, s, _, σ', updK_sound hk, h1, h2, h3⟩
 cases op with
 | call c =>
  obtain ⟨callee, xs, ats⟩ := c
  cases callee with
  | value x =>
   obtain ⟨sx, hk, hx⟩ := evK_sound (show evK F x _ from hk)
   cases sx with
   | fn f cs =>
    obtain ⟨l, hk, hl⟩ := evsK_sound hk
    have hk := appK_sound hk
    have hr := hx w _ σ a.eval (hF.opn x)
    have hls := hl w _ σ a.eval fun y _ => hF.opn y
    generalize hρ : a.eval x = vx at hr
    cases hr with
    | @fn _ _ _ vs hlen hcs =>
     have hrun : execOp a.eval ⟨d, .call ⟨.value x, xs, ats⟩, ty, pos, after, guard⟩ = callFunc f ((xs.toList.map a.eval ++ vs.toList).toArray) := by
      have e1 : (xs.toList.map a.eval ++ vs.toList).toArray = xs.map a.eval ++ vs := by
       apply Array.ext'; simp
      rw [e1]
      simp [execOp, resolve, hρ, Deferred.ofValue, invoke]
     rw [hrun]
     refine hk.ok w X σ _ hI ⟨by rw [List.length_append, List.length_append, hls.1, hlen]; simp, fun i s v hs hv => ?_⟩
     rw [List.getElem?_append] at hs hv
     rw [<- hls.1] at hv
     split at hs
     ·rename_i hlt
      rw [if_pos hlt] at hv
      exact hls.2 i s v hs hv
     ·rename_i hlt
      rw [if_neg hlt] at hv
      exact hcs _ s v hs (by simpa using hv)
   | _ => exact hk.elim
  | invoke r m => exact plain hk
  | builtin b => exact plain hk
 | _ => exact plain hk
end
end Go.Sx

namespace Go.Sx
section
variable {P : Program} {T : Tab}
theorem oper_mono {o : Oper} {a : Act} {w : World} {K K' : Act -> World -> Prop} {Q Q' : Exit -> Act -> World -> Prop} (hk : ∀ a w, K a w -> K' a w) (hq : ∀ e a w, Q e a w -> Q' e a w) (h : o.wp P a w K Q) : o.wp P a w K' Q' := by
 unfold Oper.wp at *
 generalize (execOp a.eval o).run P w = r at *
 cases r with
 | ok n w' =>
  cases n <;> simp only [Oper.upon] at h ⊢ <;> first
   | exact hk _ _ h
   | exact h.mono fun e w'' he => by cases e <;> first | exact hk _ _ he | exact hq _ _ _ he | (obtain ⟨a, w, hx⟩ := he; exact ⟨a, w, hq _ _ _ hx⟩)
   | exact Rows.mono h fun _ _ he => hk _ _ he
 | halt x w' => cases x <;> simp only [Oper.upon] at h ⊢ <;> exact hq _ _ _ h
theorem wpList_mono' {ops : Array Oper} {Q Q' : Exit -> Act -> World -> Prop} (hq : ∀ e a w, Q e a w -> Q' e a w) (l : List Oper) : ∀ {a : Act} {w : World}, wpList P ops Q l a w -> wpList P ops Q' l a w := by
 induction l with
 | nil => intro a w h; exact hq _ _ _ h
 | cons o l ih =>
  intro a w h
  unfold wpList at h ⊢
  split
  ·rename_i hw
   rw [if_pos hw] at h
   rcases h with h | ⟨h1, a', w', h2⟩
   ·exact .inl (oper_mono (fun _ _ => ih) hq h)
   ·exact .inr ⟨h1, a', w', hq _ _ _ h2⟩
  ·rename_i hw
   rw [if_neg hw] at h
   exact ih h
theorem SPost.from {m : Nat} {X : Nat -> Prop} {w0 w1 : World} {σ0 σ1 : Sg} {K : Post} {e : Exit} {a : Act} {w : World} (hS : Step m w0 σ0 w1 σ1) (h : SPost m X w1 σ1 K e a w) : SPost m X w0 σ0 K e a w := by
 obtain ⟨hd, x, F, hp, σ, hx, hk, hI, hF, hS'⟩ := h
 exact ⟨hd, x, F, hp, σ, hx, hk, hI, hF, hS.trans hS'⟩
theorem SPost.mono {m : Nat} {X : Nat -> Prop} {w0 : World} {σ0 : Sg} {K K' : Post} {e : Exit} {a : Act} {w : World} (hk : ∀ x F h, K x F h -> K' x F h) (h : SPost m X w0 σ0 K e a w) : SPost m X w0 σ0 K' e a w := by
 obtain ⟨hd, x, F, hp, σ, hx, hk', hI, hF, hS⟩ := h
 exact ⟨hd, x, F, hp, σ, hx, hk _ _ _ hk', hI, hF, hS⟩
theorem SOK.mono {m : Nat} {c : Code} {F : Fr} {h : Hp} {K K' : Post} (hs : SOK P m c F h K) (hk : ∀ x F h, K x F h -> K' x F h) : SOK P m c F h K' :=
 fun w X σ tmps hI hF => wp_mono (hs w X σ tmps hI hF) fun _ _ _ => SPost.mono hk
theorem SOK.seq {m : Nat} {a b : Code} {F : Fr} {h : Hp} {K : Post}
  (hs : SOK P m a F h fun x F h => match x with | .normal => SOK P m b F h K | .exit i => K (.exit i) F h | .ret => K .ret F h) : SOK P m (.seq a b) F h K := by
 intro w X σ tmps hI hF
 refine wp_seq (wp_mono (hs w X σ tmps hI hF) fun e a' w' hq => ?_)
 obtain ⟨hd, x, F', h', σ', hx, hk, hI', hF', hS⟩ := hq
 obtain ⟨tmps', ds⟩ := a'
 have hd : ds = [] := hd
 subst hd
 cases e <;> cases hx
 case normal =>
  exact wp_mono (hk w' X σ' tmps' hI' hF') fun _ _ _ => SPost.from hS
 case exit id =>
  exact ⟨rfl, .exit id, F', h', σ', rfl, hk, hI', hF', hS⟩
 case ret =>
  exact ⟨rfl, .ret, F', h', σ', rfl, hk, hI', hF', hS⟩
theorem SOK.block {m : Nat} {id : Nat} {c : Code} {F : Fr} {h : Hp} {K : Post}
  (hs : SOK P m c F h fun x F h => match x with | .normal => K .normal F h | .exit i => (match Nat.beq i id with | true => K .normal F h | false => K (.exit i) F h) | .ret => K .ret F h) : SOK P m (.block id c) F h K := by
 intro w X σ tmps hI hF
 refine wp_block (wp_mono (hs w X σ tmps hI hF) fun e a' w' hq => ?_)
 obtain ⟨hd, x, F', h', σ', hx, hk, hI', hF', hS⟩ := hq
 cases e <;> cases hx
 case normal => exact ⟨hd, .normal, F', h', σ', rfl, hk, hI', hF', hS⟩
 case ret => exact ⟨hd, .ret, F', h', σ', rfl, hk, hI', hF', hS⟩
 case exit i =>
  simp only [Exit.inBlock]
  by_cases hi : i = id
  ·subst hi
   rw [if_pos rfl]
   have hb : Nat.beq i i = true := Nat.beq_refl i
   simp only [hb] at hk
   exact ⟨hd, .normal, F', h', σ', rfl, hk, hI', hF', hS⟩
  ·rw [if_neg hi]
   have hb : Nat.beq i id = false := by
    cases hc : Nat.beq i id with
    | true => exact absurd (Nat.eq_of_beq_eq_true hc) hi
    | false => rfl
   simp only [hb] at hk
   exact ⟨hd, .exit i, F', h', σ', rfl, hk, hI', hF', hS⟩
theorem opsK_sound (hT : TabOK P T) {ops : Array Oper} {m : Nat} {X : Nat -> Prop} {K : Fr -> Hp -> Prop} (l : List Oper) :
  ∀ {F : Fr} {h : Hp}, opsK P T ops.toList l F h K -> ∀ (w : World) (σ : Sg) (tmps : Array Value), Inv w X σ h -> FRep w (Ex X σ) σ F tmps ->
   wpList P ops (SPost m X w σ fun x F h => x = .normal /\ K F h) l ⟨tmps, []⟩ w := by
 induction l with
 | nil => intro F h hk w σ tmps hI hF; exact ⟨rfl, .normal, F, h, σ, rfl, ⟨rfl, hk⟩, hI, hF, .refl _ _ _⟩
 | cons o l ih =>
  intro F h hk w σ tmps hI hF
  -- the operation is carried out
  have yes : ∀ F : Fr, FRep w (Ex X σ) σ F tmps -> Region.wanted o (yielded ops tmps) = true -> (oneK P T F h o.op fun s h' => putD F o.dst s fun F' => opsK P T ops.toList l F' h' K) ->
    wpList P ops (SPost m X w σ fun x F h => x = .normal /\ K F h) (o :: l) ⟨tmps, []⟩ w := by
   intro F hF hw hk
   unfold wpList
   rw [if_pos hw]
   refine .inl ?_
   obtain ⟨d, op, ty, pos, after, guard⟩ := o
   refine wp_of_done (oneK_sound hT hk (a := ⟨tmps, []⟩) hI hF d ty pos after guard) fun v w' ⟨s, h', σ', hk, hr, hI', hS⟩ => ?_
   obtain ⟨F', hk, hp⟩ := putD_sound hk
   obtain ⟨hF', hd⟩ := hp w' (Ex X σ') σ' ⟨tmps, []⟩ v (hF.step hS (Nat.le_refl _)) hr
   have := ih hk w' σ' ((Act.put ⟨tmps, []⟩ d v).tmps) hI' hF'
   have e : Act.put ⟨tmps, []⟩ d v = ⟨(Act.put ⟨tmps, []⟩ d v).tmps, []⟩ := by cases d <;> rfl
   rw [e]
   exact wpList_mono' (fun e a w'' => SPost.from hS.any) l this
  have no : ∀ F : Fr, FRep w (Ex X σ) σ F tmps -> Region.wanted o (yielded ops tmps) = false -> (putD F o.dst .undef fun F' => opsK P T ops.toList l F' h K) ->
    wpList P ops (SPost m X w σ fun x F h => x = .normal /\ K F h) (o :: l) ⟨tmps, []⟩ w := by
   intro F hF hw hk
   unfold wpList
   rw [if_neg (by rw [hw]; simp)]
   obtain ⟨F', hk, hp⟩ := putD_sound hk
   obtain ⟨hF', hd⟩ := hp w (Ex X σ) σ ⟨tmps, []⟩ Go.undef hF .undef
   have := ih hk w σ ((Act.put ⟨tmps, []⟩ o.dst Go.undef).tmps) hI hF'
   have e : Act.put ⟨tmps, []⟩ o.dst Go.undef = ⟨(Act.put ⟨tmps, []⟩ o.dst Go.undef).tmps, []⟩ := by cases o.dst <;> rfl
   rw [e]
   exact this
  have hk : guardK ops.toList F o.guard (fun F => oneK P T F h o.op fun s h' => putD F o.dst s fun F' => opsK P T ops.toList l F' h' K) (fun F => putD F o.dst .undef fun F' => opsK P T ops.toList l F' h K) := hk
  revert hk
  generalize hYes : (fun F => oneK P T F h o.op fun s h' => putD F o.dst s fun F' => opsK P T ops.toList l F' h' K) = Yes
  generalize hNo : (fun F => putD F o.dst .undef fun F' => opsK P T ops.toList l F' h K) = No
  intro hk
  unfold guardK at hk
  cases hg : o.guard with
  | none =>
   rw [hg] at hk
   subst hYes
   exact yes F hF (by simp [Region.wanted, hg]) hk
  | some p =>
   obtain ⟨j, want⟩ := p
   rw [hg] at hk
   simp only [] at hk
   cases hd : dstOf ops.toList j with
   | none => rw [hd] at hk; exact hk.elim
   | some d =>
    rw [hd] at hk
    obtain ⟨s, hs, hk⟩ := nthK_sound (show nthK F d _ from hk)
    obtain ⟨v, hv, hr⟩ := hF.get hs
    have hy : ∀ r : Option Bool, (match v with | .bool b => some b | _ => none) = r -> Region.wanted o (yielded ops tmps) = (r == some want) := by
     intro r hr'
     have hd' : (ops[j]?).bind (·.dst) = some d := by
      unfold dstOf at hd; rw [Array.getElem?_toList] at hd; exact hd
     have : yielded ops tmps j = r := by
      unfold yielded; rw [hd']; simp only [Option.bind_some, hv, <- hr']
      cases v <;> rfl
     simp [Region.wanted, hg, this]
    cases s with
    | tt =>
     cases hr
     have := hy (some true) rfl
     cases want
     ·subst hNo; exact no F hF (by rw [this]; rfl) hk
     ·subst hYes; exact yes F hF (by rw [this]; rfl) hk
    | ff =>
     cases hr
     have := hy (some false) rfl
     cases want
     ·subst hYes; exact yes F hF (by rw [this]; rfl) hk
     ·subst hNo; exact no F hF (by rw [this]; rfl) hk
    | undef =>
     cases hr
     have := hy none rfl
     subst hNo
     exact no F hF (by rw [this]; rfl) (by cases want <;> exact hk)
    | bool b =>
     cases hr
     have := hy (some b) rfl
     have kt : b = true -> FRep w (Ex X σ) σ (F.set d .tt) tmps := fun hb => hF.know fun v' hv' => by
      rw [hv] at hv'; simp at hv'; subst hv'; subst hb; exact .tt
     have kf : b = false -> FRep w (Ex X σ) σ (F.set d .ff) tmps := fun hb => hF.know fun v' hv' => by
      rw [hv] at hv'; simp at hv'; subst hv'; subst hb; exact .ff
     cases want
     ·cases hb : b with
      | true =>
       obtain ⟨_, hk'⟩ := setK_sound (hk.1 hb)
       subst hNo
       exact no _ (kt hb) (by rw [this, hb]; rfl) hk'
      | false =>
       obtain ⟨_, hk'⟩ := setK_sound (hk.2 hb)
       subst hYes
       exact yes _ (kf hb) (by rw [this, hb]; rfl) hk'
     ·cases hb : b with
      | true =>
       obtain ⟨_, hk'⟩ := setK_sound (hk.1 hb)
       subst hYes
       exact yes _ (kt hb) (by rw [this, hb]; rfl) hk'
      | false =>
       obtain ⟨_, hk'⟩ := setK_sound (hk.2 hb)
       subst hNo
       exact no _ (kf hb) (by rw [this, hb]; rfl) hk'
    | _ => cases want <;> exact hk.elim
theorem codeK_sound (hT : TabOK P T) {m : Nat} (c : Code) : ∀ {F : Fr} {h : Hp} {K : Post}, codeK P T m c F h K -> SOK P m c F h K := by
 induction c with
 | skip => intro F h K hk w X σ tmps hI hF; exact wp_skip ⟨rfl, .normal, F, h, σ, rfl, hk, hI, hF, .refl _ _ _⟩
 | region id ops draw =>
  intro F h K hk
  cases draw with
  | false =>
   intro w X σ tmps hI hF
   refine wp_mono (wp_region_list (opsK_sound (m := m) hT ops.toList (K := K .normal) hk w σ tmps hI hF)) fun e a w' hq => ?_
   exact hq.mono fun x F h ⟨hx, hk⟩ => by subst hx; exact hk
  | true => exact (show DrawG P m id ops F h (K .normal) from hk).ok.mono fun x F h ⟨hx, hk⟩ => by subst hx; exact hk
 | seq a b iha ihb =>
  intro F h K hk
  refine SOK.seq ((iha hk).mono fun x F h hk => ?_)
  cases x with
  | normal => exact ihb hk
  | exit i => exact hk
  | ret => exact hk
 | cond c a b iha ihb =>
  intro F h K hk w X σ tmps hI hF
  obtain ⟨s, hk, hs⟩ := evK_sound (show evK F c _ from hk)
  have hr := hs w (Ex X σ) σ (Act.eval ⟨tmps, []⟩) (FRep.opn (a := ⟨tmps, []⟩) hF c)
  generalize hv : Act.eval ⟨tmps, []⟩ c = v at hr
  cases s with
  | tt => cases hr; exact wp_cond (t := true) hv (iha hk w X σ tmps hI hF)
  | ff => cases hr; exact wp_cond (t := false) hv (ihb hk w X σ tmps hI hF)
  | qb p =>
   cases hr with
   | @qb _ _ b hb =>
    cases b with
    | true => exact wp_cond (t := true) hv (iha (hk.1 (hb rfl)) w X σ tmps hI hF)
    | false => exact wp_cond (t := false) hv (ihb hk.2 w X σ tmps hI hF)
  | bool x =>
   cases hr
   cases c with
   | tmp d =>
    have hv' : tmps.getD d Go.undef = .bool x := hv
    have know : ∀ s, (∀ E : Nat -> Prop, Rep w E σ s (.bool x)) -> FRep w (Ex X σ) σ (F.set d s) tmps := fun s hs => hF.know fun v hv2 => by
     have : v = .bool x := by rw [<- hv', Array.getD_eq_getD_getElem?, hv2]; rfl
     subst this; exact hs _
    cases hx : x with
    | true =>
     obtain ⟨_, hk'⟩ := setK_sound (hk.1 hx)
     subst hx
     exact wp_cond (t := true) hv (iha hk' w X σ tmps hI (know _ fun _ => .tt))
    | false =>
     obtain ⟨_, hk'⟩ := setK_sound (hk.2 hx)
     subst hx
     exact wp_cond (t := false) hv (ihb hk' w X σ tmps hI (know _ fun _ => .ff))
   | _ => exact hk.elim
  | _ => exact hk.elim
 | block id c ih =>
  intro F h K hk
  refine SOK.block ((ih hk).mono fun x F h hk => ?_)
  cases x <;> exact hk
 | loop c _ => intro F h K hk; exact (show LoopG P m c F h K from hk).ok
 | rangeFunc f ps a b _ _ => intro F h K hk; exact hk.elim
 | exit id => intro F h K hk w X σ tmps hI hF; exact wp_exit ⟨rfl, .exit id, F, h, σ, rfl, hk, hI, hF, .refl _ _ _⟩
 | scope c ih =>
  intro F h K hk w X σ tmps hI hF
  refine wp_scope_straight (wp_mono (ih hk w X σ tmps hI hF) fun e a w' hq => ?_)
  cases e with
  | goto l => obtain ⟨_, x, _, _, _, hx, _⟩ := hq; cases hx
  | _ => exact hq
 | label l => intro F h K hk w X σ tmps hI hF; exact wp_label ⟨rfl, .normal, F, h, σ, rfl, hk, hI, hF, .refl _ _ _⟩
 | goto l => intro F h K hk; exact hk.elim
 | ret => intro F h K hk w X σ tmps hI hF; exact wp_ret ⟨rfl, .ret, F, h, σ, rfl, hk, hI, hF, .refl _ _ _⟩
 | refuse why => intro F h K hk; exact hk.elim
theorem resK_sound (hT : TabOK P T) {h : Hp} {F : Fr} (l : List ResultVar) : ∀ {k : List SV -> Prop}, resK h F T l k ->
    ∃ ss, k ss /\ ∀ (w : World) (X : Nat -> Prop) (σ : Sg) (tmps : Array Value), Inv w X σ h -> FRep w (Ex X σ) σ F tmps ->
      ∃ vs : List Value, (l.mapM fun | .tmp t => pure (tmps.getD t Go.undef) | .cell a t => do loadVar t (<- asAddr (tmps.getD a Go.undef)) : Sem (List Value)).run P w = .ok vs w /\ RepL w (Ex X σ) σ ss vs := by
  induction l with
  | nil => intro k hk; exact ⟨[], hk, fun w X σ tmps _ _ => ⟨[], rfl, rfl, by simp⟩⟩
  | cons r l ih =>
    intro k hk
    -- what is common to both
    have glue : ∀ (s : SV), (∃ ss, k (s :: ss) /\ ∀ (w : World) (X : Nat -> Prop) (σ : Sg) (tmps : Array Value), Inv w X σ h -> FRep w (Ex X σ) σ F tmps ->
          ∃ vs : List Value, (l.mapM fun | .tmp t => pure (tmps.getD t Go.undef) | .cell a t => do loadVar t (<- asAddr (tmps.getD a Go.undef)) : Sem (List Value)).run P w = .ok vs w /\ RepL w (Ex X σ) σ ss vs) ->
        (∀ (w : World) (X : Nat -> Prop) (σ : Sg) (tmps : Array Value), Inv w X σ h -> FRep w (Ex X σ) σ F tmps ->
          ∃ v, ((fun | .tmp t => pure (tmps.getD t Go.undef) | .cell a t => do loadVar t (<- asAddr (tmps.getD a Go.undef)) : ResultVar -> Sem Value) r).run P w = .ok v w /\ Rep w (Ex X σ) σ s v) ->
        ∃ ss, k ss /\ ∀ (w : World) (X : Nat -> Prop) (σ : Sg) (tmps : Array Value), Inv w X σ h -> FRep w (Ex X σ) σ F tmps ->
          ∃ vs : List Value, ((r :: l).mapM fun | .tmp t => pure (tmps.getD t Go.undef) | .cell a t => do loadVar t (<- asAddr (tmps.getD a Go.undef)) : Sem (List Value)).run P w = .ok vs w /\ RepL w (Ex X σ) σ ss vs := by
      rintro s ⟨ss, hk, hrest⟩ hone
      refine ⟨s :: ss, hk, fun w X σ tmps hI hF => ?_⟩
      obtain ⟨vs, h1, h2, h3⟩ := hrest w X σ tmps hI hF
      obtain ⟨v, h4, h5⟩ := hone w X σ tmps hI hF
      refine ⟨v :: vs, ?_, by simp [h2], fun i s' v' hs hv => ?_⟩
      . rw [List.mapM_cons, Sem.run_bind, h4, Result.andThen_ok, Sem.run_bind, h1]
        rfl
      . cases i with
        | zero => simp at hs hv; subst hs; subst hv; exact h5
        | succ i => exact h3 i s' v' (by simpa using hs) (by simpa using hv)
    cases r with
    | tmp t =>
      obtain ⟨s, hs, hk⟩ := nthK_sound (show nthK F t _ from hk)
      refine glue s (ih hk) fun w X σ tmps hI hF => ?_
      obtain ⟨v, hv, hr⟩ := hF.get hs
      exact ⟨v, by simp [Array.getD_eq_getD_getElem?, hv], hr⟩
    | cell a t =>
      obtain ⟨s, hs, hk⟩ := nthK_sound (show nthK F a _ from hk)
      cases s with
      | ptr b off =>
        obtain ⟨blk, hb, hk⟩ := nthK_sound (show nthK h b _ from hk)
        cases blk with
        | fix T0 cs =>
          obtain ⟨s, n, ag, hk, hag, hn, h1, h2⟩ := partK_sound hT (show partK T cs off t _ from hk)
          refine glue s (ih hk) fun w X σ tmps hI hF => ?_
          obtain ⟨v, hv, hr⟩ := hF.get hs
          obtain ⟨g, vs, hσ, hg, hl, hc⟩ := fix_of hI hb
          have hv' : v = .pointer (some ⟨g, off, none⟩) := by
            cases hr with
            | ptr h' => rw [hσ] at h'; simp at h'; rw [h']
            | ptrD h' => rw [hσ] at h'; simp at h'
          obtain ⟨u, hrun, hrep⟩ := load_sound (P := P) (w := w) (σ := σ) (a := ⟨g, off, none⟩) (fun j => (vs[off + j]?).getD Go.undef) (hag w) (hn w) h1 h2 (fun j s hs => by
            have hj : off + j < vs.size := by rw [<- hl]; exact (List.getElem?_eq_some_iff.1 hs).1
            have hvj : vs[off + j]? = some (vs[off + j]'hj) := Array.getElem?_eq_getElem hj
            rw [cell_at hg, hvj]
            exact ⟨rfl, hc _ _ _ hs hvj⟩)
          have e : tmps.getD a Go.undef = .pointer (some ⟨g, off, none⟩) := by rw [Array.getD_eq_getD_getElem?, hv, hv']; rfl
          exact ⟨u, by simp only [e, asAddr, Sem.run_bind, Sem.run_pure, Result.andThen_ok, hrun], hrep⟩
        | _ => exact hk.elim
      | _ => exact hk.elim
theorem tupK_sound {l : List SV} {k : SV -> Prop} (h : tupK l k) : ∃ s, k s /\ ∀ (w : World) (E : Nat -> Prop) (σ : Sg) (vs : Array Value), RepL w E σ l vs.toList ->
  Rep w E σ s (if h : vs.size = 1 then vs[0] else .tuple vs) := by
 have many : ∀ l : List SV, l.length ≠ 1 -> ∀ (w : World) (E : Nat -> Prop) (σ : Sg) (vs : Array Value), RepL w E σ l vs.toList -> Rep w E σ (.tup l) (if h : vs.size = 1 then vs[0] else .tuple vs) := by
  intro l hl w E σ vs hr
  rw [dif_neg (by have := hr.1; simp at this; omega)]
  exact .tup (by simpa using hr.1) fun i s v hs hv => hr.2 i s v hs (by simpa using hv)
 unfold tupK at h
 split at h
 ·refine ⟨_, h, fun w E σ vs hr => ?_⟩
  have hs : vs.size = 1 := by have := hr.1; simpa using this.symm
  rw [dif_pos hs]
  exact hr.2 0 _ _ rfl (by simp [hs])
 ·exact ⟨_, h, many _ (by simp)⟩
 ·exact ⟨_, h, many _ (by simp)⟩
theorem startK_sound {args : List SV} {n : Nat} {k : Fr -> Prop} (h : startK args n k) : ∃ F, k F /\ ∀ (w : World) (E : Nat -> Prop) (σ : Sg) (vs : List Value), RepL w E σ args vs ->
  FRep w E σ F (vs.toArray ++ Array.replicate (n - vs.toArray.size) Go.undef) := by
 have h := repK_sound (show repK n SV.undef _ from h)
 obtain ⟨hle, h⟩ := dropK_sound h
 have h := appK_sound h
 refine ⟨_, h, fun w E σ vs hr => ⟨?_, fun i s v hs hv => ?_⟩⟩
 ·have := hr.1; simp at hle ⊢; omega
 ·have hl := hr.1
  rw [List.getElem?_append] at hs
  rw [Array.getElem?_append] at hv
  split at hs
  ·rename_i hlt
   rw [if_pos (by simpa [<- hl] using hlt)] at hv
   exact hr.2 i s v hs (by simpa using hv)
  ·rename_i hlt
   rw [if_neg (by simpa [<- hl] using hlt)] at hv
   have e1 : s = .undef := by
    have := List.mem_of_getElem? hs
    exact (List.mem_replicate.1 (List.mem_of_mem_drop this)).2
   have e2 : v = Go.undef := by
    have := Array.mem_of_getElem? hv
    simpa using (Array.mem_replicate.1 this).2
   subst e1; subst e2; exact .undef
theorem CallG.of_code (hT : TabOK P T) {f : FuncId} {fn : Func} {c : Code} {args : List SV} {h : Hp} {R : SV -> Hp -> Prop} (hf : P.funcs[f]? = some fn) (hn : (fn.name == "runtime.NumGoroutine") = false)
  (hb : fn.body = some c) (hk : startK args fn.ntmps fun F => codeK P T h.length c F h (retK T fn R)) : CallG P f args h R := by
 obtain ⟨F, hk, hs⟩ := startK_sound hk
 refine ⟨fun w X σ vs hI hr => ?_⟩
 have hcall : (callFunc f vs.toArray).run P w = .ok (.enter f vs.toArray) w := by
  have h1 : fn.name ≠ "runtime.NumGoroutine" := by simpa using hn
  simp [callFunc, hf, h1, hb]
 unfold DoneS
 rw [hcall]
 refine calls_of_wp hf hb (wp_mono (codeK_sound hT c hk w X σ _ hI (hs w _ σ vs hr)) fun e a w' hq => ?_)
 obtain ⟨hd, x, F', h', σ', hx, hk, hI', hF', hS⟩ := hq
 have hm : h.length = σ.length := hI.len.symm
 rw [hm] at hS
 have fin : resK h' F' T fn.results.toList (fun l => tupK l fun s => R s h') -> a.defers = [] /\ ∃ v, (results fn a.tmps).run P w' = .ok v w' /\ ∃ v', Ending.returned v = .returned v' /\ ∃ s h' σ', R s h' /\ Rep w' (Ex X σ') σ' s v' /\ Inv w' X σ' h' /\ Step σ.length w σ w' σ' := by
  intro hk
  obtain ⟨ss, hk, hrs⟩ := resK_sound hT _ hk
  obtain ⟨s, hk, hst⟩ := tupK_sound hk
  obtain ⟨vs', hrun, hrl⟩ := hrs w' X σ' a.tmps hI' hF'
  have hres : (results fn a.tmps).run P w' = .ok (if h : vs'.toArray.size = 1 then vs'.toArray[0] else .tuple vs'.toArray) w' := by
   unfold results
   rw [Array.mapM_eq_mapM_toList]
   simp only [Sem.run_bind, Sem.run_map, Sem.run_pure]
   erw [hrun]
   rfl
  exact ⟨hd, _, hres, _, rfl, s, h', σ', hk, hst w' _ σ' vs'.toArray (by simpa using hrl), hI', hS⟩
 cases e <;> cases hx
 case normal => exact fin hk
 case ret => exact fin hk
 case exit id => exact hk.elim
end
end Go.Sx

namespace Go.Sx
section
variable {P : Program} {T : Tab}
def free1K (s : SV) (k : Prop) : Prop :=
 match s with
 | .agg cs => puresK cs k
 | .int _ _ => k | .tt => k | .ff => k | .bool _ => k | .str _ => k | .nilp => k | .nils => k | .rs _ _ => k | .rp _ _ _ _ => k | .iv _ _ _ _ _ _ => k | .bs _ _ _ _ _ => k
 | _ => False
noncomputable def freesK (l : List SV) (k : Prop) : Prop := List.rec (motive := fun _ => Prop) k (fun x _ ih => free1K x ih) l
def FreeSV (s : SV) : Prop := ∀ (w : World) (E : Nat -> Prop) (σ σ' : Sg) (v : Value), Rep w E σ s v -> Rep w E σ' s v
theorem agg_free {cs : List SV} {k : Prop} (h : puresK cs k) : k /\ FreeSV (.agg cs) := by
 obtain ⟨h1, h2⟩ := puresK_sound h
 refine ⟨h1, fun w E σ σ' v hr => ?_⟩
 cases hr with
 | agg hl ho hc => exact .agg hl ho fun i s v hs hv => h2 s (List.mem_of_getElem? hs) w E σ σ' v (hc i s v hs hv)
theorem free1K_sound {s : SV} {k : Prop} (h : free1K s k) : k /\ FreeSV s := by
 cases s <;> simp only [free1K] at h
 case agg cs => exact agg_free h
 all_goals first
  | exact h.elim
  | (refine ⟨h, fun w E σ σ' v hr => ?_⟩; cases hr <;> constructor <;> assumption)
theorem freesK_sound {l : List SV} {k : Prop} (h : freesK l k) : k /\ ∀ s ∈ l, FreeSV s := by
 induction l with
 | nil => exact ⟨h, by simp⟩
 | cons x xs ih =>
  obtain ⟨h1, h2⟩ := free1K_sound (show free1K x (freesK xs k) from h)
  obtain ⟨h3, h4⟩ := ih h1
  refine ⟨h3, fun s hs => ?_⟩
  rcases List.mem_cons.1 hs with rfl | hs
  ·exact h2
  ·exact h4 s hs
/-- A call of f at these arguments, in whatever heap, hands back what R says, and changes nothing that was there. -/
structure PSpec (P : Program) (f : FuncId) (args : List SV) (R : SV -> Prop) : Prop where
 ok : ∀ (h : Hp) (K : SV -> Hp -> Prop), (∀ s, R s -> K s h) -> CallG P f args h K
theorem PSpec.call {f : FuncId} {args : List SV} {R : SV -> Prop} (hs : PSpec P f args R) {h : Hp} {K : SV -> Hp -> Prop} (hk : ∀ s, R s -> K s h) : CallG P f args h K := hs.ok h K hk
theorem not_owned_nil (g : Nat) : ¬ Owned [] g := by rintro ⟨i, e, he, _⟩; simp at he
theorem ex_nil {X : Nat -> Prop} {g : Nat} : Ex X [] g ↔ X g := ⟨fun h => h.resolve_right (not_owned_nil g), .inl⟩
theorem Inv.same {w w' : World} {X : Nat -> Prop} {σ σ' : Sg} {h : Hp} (hI : Inv w X σ h) (hS : Step 0 w [] w' σ') : Inv w' X σ h /\ Step σ.length w σ w' σ := by
 have hsame : ∀ g, g < w.heap.size -> w'.heap[g]? = w.heap[g]? := fun g hg => hS.frame g hg (not_owned_nil g)
 have hS2 : Step σ.length w σ w' σ := ⟨hS.os, hS.tape, hS.output, hS.size, fun g hg _ => hsame g hg, fun g ho _ => ho, fun i e _ he _ => .inl he⟩
 refine ⟨⟨hI.len, fun i b e hb he => (hI.ok i b e hb he).step hS2 (Nat.le_refl _) fun g hg => hsame g (hI.lt i e g he hg), fun i e g he hg => Nat.lt_of_lt_of_le (hI.lt i e g he hg) hS.size, hI.inj, hI.dis, fun g hx => Nat.lt_of_lt_of_le (hI.xlt g hx) hS.size⟩, hS2⟩
theorem DoneS.mono {m : Sem Next} {w : World} {R R' : Value -> World -> Prop} (h : DoneS P m w R) (hr : ∀ v w', R v w' -> R' v w') : DoneS P m w R' := by
 unfold DoneS at *
 generalize m.run P w = r at *
 cases r with
 | halt x w' => exact h.elim
 | ok n w' =>
  cases n <;> first | exact h.elim | exact hr _ _ h | exact h.mono fun e w'' ⟨v, he, h⟩ => ⟨v, he, hr _ _ h⟩
def norm1K (s : SV) (k : SV -> Prop) : Prop :=
 match s with
 | .tt => k (.bool true) | .ff => k (.bool false) | .bool b => k (.bool b)
 | .int q n => k (.int q n) | .str s => k (.str s) | .nilp => k .nilp | .nils => k .nils | .rs z es => k (.rs z es) | .rp z es i f => k (.rp z es i f)
 | _ => False
noncomputable def norms1K (l : List SV) : (List SV -> Prop) -> Prop :=
 List.rec (motive := fun _ => (List SV -> Prop) -> Prop) (fun k => k []) (fun x _ ih k => norm1K x fun y => ih fun r => k (y :: r)) l
noncomputable def norm2K (s : SV) (k : SV -> Prop) : Prop :=
 match s with
 | .agg cs => norms1K cs fun c => k (.agg c)
 | .tt => k (.bool true) | .ff => k (.bool false) | .bool b => k (.bool b)
 | .int q n => k (.int q n) | .str s => k (.str s) | .nilp => k .nilp | .nils => k .nils | .rs z es => k (.rs z es) | .rp z es i f => k (.rp z es i f)
 | _ => False
noncomputable def norms2K (l : List SV) : (List SV -> Prop) -> Prop :=
 List.rec (motive := fun _ => (List SV -> Prop) -> Prop) (fun k => k []) (fun x _ ih k => norm2K x fun y => ih fun r => k (y :: r)) l
noncomputable def outK (s : SV) (k : SV -> Prop) : Prop :=
 match s with
 | .tup vs => norms2K vs fun l => k (.tup l)
 | .agg cs => norms1K cs fun c => k (.agg c)
 | .tt => k (.bool true) | .ff => k (.bool false) | .bool b => k (.bool b)
 | .int q n => k (.int q n) | .str s => k (.str s) | .nilp => k .nilp | .nils => k .nils | .rs z es => k (.rs z es) | .rp z es i f => k (.rp z es i f)
 | _ => False
def To (s s' : SV) : Prop := ∀ (w : World) (E : Nat -> Prop) (σ σ' : Sg) (v : Value), Rep w E σ s v -> Rep w E σ' s' v
def ToL (l l' : List SV) : Prop := l.length = l'.length /\ ∀ (i : Nat) (s s' : SV), l[i]? = some s -> l'[i]? = some s' -> To s s'
theorem norm1K_sound {s : SV} {k : SV -> Prop} (h : norm1K s k) : ∃ s', k s' /\ To s s' := by
 cases s <;> simp only [norm1K] at h
 all_goals first
  | exact h.elim
  | (refine ⟨_, h, fun w E σ σ' v hr => ?_⟩; cases hr <;> first | (constructor; done) | (constructor <;> assumption))
theorem list_sound {f : SV -> (SV -> Prop) -> Prop} (hf : ∀ {s : SV} {k : SV -> Prop}, f s k -> ∃ s', k s' /\ To s s') (l : List SV) : ∀ {k : List SV -> Prop},
  List.rec (motive := fun _ => (List SV -> Prop) -> Prop) (fun k => k []) (fun x _ ih k => f x fun y => ih fun r => k (y :: r)) l k -> ∃ l', k l' /\ ToL l l' := by
 induction l with
 | nil => intro k h; exact ⟨[], h, rfl, by simp⟩
 | cons x l ih =>
  intro k h
  obtain ⟨y, h, hy⟩ := hf h
  obtain ⟨l', h, hl, hl'⟩ := ih h
  refine ⟨y :: l', h, by simp [hl], fun i s s' hs hs' => ?_⟩
  cases i with
  | zero => simp at hs hs'; subst hs; subst hs'; exact hy
  | succ i => exact hl' i s s' (by simpa using hs) (by simpa using hs')
theorem To.agg {l l' : List SV} (h : ToL l l') : To (.agg l) (.agg l') := by
 intro w E σ σ' v hr
 cases hr with
 | agg hl ho hc =>
  refine .agg (h.1 ▸ hl) ho fun i s v hs hv => ?_
  have hi : i < l.length := by rw [h.1]; exact (List.getElem?_eq_some_iff.1 hs).1
  exact h.2 i _ s (List.getElem?_eq_getElem hi) hs w E σ σ' v (hc i _ v (List.getElem?_eq_getElem hi) hv)
theorem To.tup {l l' : List SV} (h : ToL l l') : To (.tup l) (.tup l') := by
 intro w E σ σ' v hr
 cases hr with
 | tup hl hc =>
  refine .tup (h.1 ▸ hl) fun i s v hs hv => ?_
  have hi : i < l.length := by rw [h.1]; exact (List.getElem?_eq_some_iff.1 hs).1
  exact h.2 i _ s (List.getElem?_eq_getElem hi) hs w E σ σ' v (hc i _ v (List.getElem?_eq_getElem hi) hv)
theorem norm2K_sound {s : SV} {k : SV -> Prop} (h : norm2K s k) : ∃ s', k s' /\ To s s' := by
 cases s with
 | agg cs =>
  obtain ⟨l, h, hl⟩ := list_sound norm1K_sound cs (show norms1K cs _ from h)
  exact ⟨_, h, .agg hl⟩
 | _ => exact norm1K_sound (by first | exact h | exact h.elim)
theorem outK_sound {s : SV} {k : SV -> Prop} (h : outK s k) : ∃ s', k s' /\ To s s' := by
 cases s with
 | tup vs =>
  obtain ⟨l, h, hl⟩ := list_sound norm2K_sound vs (show norms2K vs _ from h)
  exact ⟨_, h, .tup hl⟩
 | agg cs =>
  obtain ⟨l, h, hl⟩ := list_sound norm1K_sound cs (show norms1K cs _ from h)
  exact ⟨_, h, .agg hl⟩
 | _ => exact norm1K_sound (by first | exact h | exact h.elim)
theorem PSpec.of_out {f : FuncId} {args : List SV} {R : SV -> Prop} (ha : freesK args True) (hc : CallG P f args [] fun s _ => outK s R) : PSpec P f args R := by
 refine ⟨fun h K hk => ⟨fun w X σ vs hI hr => ?_⟩⟩
 have hfree := (freesK_sound ha).2
 have hex : ∀ g, Ex (Ex X σ) [] g ↔ Ex X σ g := fun g => ex_nil
 have hI0 : Inv w (Ex X σ) [] [] := ⟨rfl, by simp, by simp, by simp, fun g _ => not_owned_nil g, fun g hg => by
  rcases hg with hg | ⟨i, e, he, hg⟩
  ·exact hI.xlt g hg
  ·exact hI.lt i e g he hg⟩
 have hr0 : RepL w (Ex (Ex X σ) []) [] args vs := ⟨hr.1, fun i s v hs hv =>
  (hfree s (List.mem_of_getElem? hs) w _ σ [] v (hr.2 i s v hs hv)).mono [] (fun _ _ _ => rfl) (Nat.le_refl _) (fun g _ hn h => hn ((hex g).1 h)) (by simp)⟩
 refine (hc.ok w (Ex X σ) [] vs hI0 hr0).mono fun v w' ⟨s, h', σ', hf, hrep, hI', hS⟩ => ?_
 obtain ⟨s', hR, hto⟩ := outK_sound hf
 obtain ⟨hI2, hS2⟩ := hI.same hS
 exact ⟨s', h, σ, hk s' hR, (hto w' _ σ' σ v hrep).mono σ (fun _ _ _ => rfl) (Nat.le_refl _) (fun g _ hn h => hn (.inl h)) (fun i e he _ => .inl he), hI2, hS2⟩
theorem PSpec.of_code' (hT : TabOK P T) {f : FuncId} {fn : Func} {c : Code} {args : List SV} {R : SV -> Prop} (hf : P.funcs[f]? = some fn) (hn : (fn.name == "runtime.NumGoroutine") = false)
  (hb : fn.body = some c) (ha : freesK args True) (hk : startK args fn.ntmps fun F => codeK P T 0 c F [] (retK T fn fun s _ => outK s R)) : PSpec P f args R :=
 .of_out ha (CallG.of_code hT hf hn hb hk)
theorem PSpec.of_value {f : FuncId} {args : List SV} {R : SV -> Prop} {s : SV} (hR : R s)
  (hrun : ∀ (w : World) (E : Nat -> Prop) (σ : Sg) (vs : List Value), RepL w E σ args vs -> ∃ v, (callFunc f vs.toArray).run P w = .ok (.value v) w /\ Rep w E σ s v) : PSpec P f args R :=
 ⟨fun h K hk => ⟨fun w X σ vs hI hr => by
  obtain ⟨v, hv, hrep⟩ := hrun w _ σ vs hr
  unfold DoneS
  rw [hv]
  exact ⟨s, h, σ, hk s hR, hrep, hI, .refl _ _ _⟩⟩⟩
end
end Go.Sx
