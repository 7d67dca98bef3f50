/- The symbolic executor of this seat's proofs, part 1 of 4. No statement of the seat is proved here. -/
import Derived.WalkKit
import Derived.Deep.LoopGhost
import Derived.Maps.AppendAt
import Derived.Lib.SliceRun
import Derived.Great.FillDense
/- The symbolic values of this seat's proofs, what they say of memory, and how that is kept. No statement of the seat is proved here. -/
namespace Go.Sx

inductive SV where
  | bot | any | undef
  | int (k : IntKind) (n : Int)
  | tt | ff | bool (b : Bool) | qb (p : Prop)
  | str (s : List UInt8)
  | agg (cs : List SV)
  | tup (vs : List SV)
  | nilp
  | ptr (b off : Nat)
  | ep (b i f : Nat)
  | nils
  | sl (b : Nat)
  | rs (sz : Nat) (es : List (List SV))
  | rp (sz : Nat) (es : List (List SV)) (i f : Nat)
  | fn (f : FuncId) (caps : List SV)
  | ln (n : Nat)
  deriving Inhabited

inductive Blk where
  | fresh | dead
  | fix (T : TypeId) (cs : List SV)
  | row (T : TypeId) (sz : Nat) (es : List (List SV))
  deriving Inhabited

abbrev Fr := List SV
abbrev Hp := List Blk

/-- Where a block of the symbolic heap lies. -/
inductive Ent where
  | fresh | dead
  | fix (g : Nat)
  | row (g sz n cap : Nat)
  | rownil
  deriving Inhabited

def Ent.blk : Ent → Option Nat
  | .fix g => some g
  | .row g _ _ _ => some g
  | _ => none

abbrev Sg := List Ent

def Owned (σ : Sg) (g : Nat) : Prop := ∃ (i : Nat) (e : Ent), σ[i]? = some e ∧ e.blk = some g
def Ex (X : Nat → Prop) (σ : Sg) (g : Nat) : Prop := X g ∨ Owned σ g

inductive Rep (w : World) (E : Nat → Prop) : Sg → SV → Value → Prop where
  | any {σ : Sg} {v : Value} : Rep w E σ .any v
  | undef {σ : Sg} : Rep w E σ .undef Go.undef
  | int {σ : Sg} {k : IntKind} {n : Int} : Rep w E σ (.int k n) (.int k n)
  | tt {σ : Sg} : Rep w E σ .tt (.bool true)
  | ff {σ : Sg} : Rep w E σ .ff (.bool false)
  | bool {σ : Sg} {b : Bool} : Rep w E σ (.bool b) (.bool b)
  | qb {σ : Sg} {p : Prop} {b : Bool} (h : b = true → p) : Rep w E σ (.qb p) (.bool b)
  | str {σ : Sg} {s : List UInt8} : Rep w E σ (.str s) (.string ⟨s.toArray⟩)
  | agg {σ : Sg} {cs : List SV} {vs : Array Value} (hl : cs.length = vs.size) (h1 : ∀ (i : Nat) (v : Value), vs[i]? = some v → v.oneCell' = true)
      (h : ∀ (i : Nat) (s : SV) (v : Value), cs[i]? = some s → vs[i]? = some v → Rep w E σ s v) : Rep w E σ (.agg cs) (.agg vs)
  | tup {σ : Sg} {cs : List SV} {vs : Array Value} (hl : cs.length = vs.size)
      (h : ∀ (i : Nat) (s : SV) (v : Value), cs[i]? = some s → vs[i]? = some v → Rep w E σ s v) : Rep w E σ (.tup cs) (.tuple vs)
  | nilp {σ : Sg} : Rep w E σ .nilp (.pointer none)
  | nils {σ : Sg} : Rep w E σ .nils (.slice none 0 0)
  | ptr {σ : Sg} {b g off : Nat} (h : σ[b]? = some (.fix g)) : Rep w E σ (.ptr b off) (.pointer (some ⟨g, off, none⟩))
  | ptrD {σ : Sg} {b off g : Nat} (h : σ[b]? = some .dead) : Rep w E σ (.ptr b off) (.pointer (some ⟨g, off, none⟩))
  | ep {σ : Sg} {b g sz n cap i f : Nat} (h : σ[b]? = some (.row g sz n cap)) : Rep w E σ (.ep b i f) (.pointer (some ⟨g, i * sz + f, none⟩))
  | epD {σ : Sg} {b i f g o : Nat} (h : σ[b]? = some .dead) : Rep w E σ (.ep b i f) (.pointer (some ⟨g, o, none⟩))
  | sl {σ : Sg} {b g sz n cap : Nat} (h : σ[b]? = some (.row g sz n cap)) : Rep w E σ (.sl b) (.slice (some ⟨g, 0, none⟩) n cap)
  | slN {σ : Sg} {b : Nat} (h : σ[b]? = some .rownil) : Rep w E σ (.sl b) (.slice none 0 0)
  | slD {σ : Sg} {b n c : Nat} {a : Option Addr} (h : σ[b]? = some .dead) : Rep w E σ (.sl b) (.slice a n c)
  | rs0 {σ : Sg} {sz : Nat} {a : Option Addr} {c : Nat} (hc : c ≤ maxLen) : Rep w E σ (.rs sz []) (.slice a 0 c)
  | rs {σ : Sg} {sz : Nat} {es : List (List SV)} {ad : Addr} {c : Nat} {val : Nat → Nat → Value} (hc : es.length ≤ c) (hm : c ≤ maxLen) (hE : ¬ E ad.block) (hlt : ad.block < w.heap.size)
      (hlen : ∀ (i : Nat) (e : List SV), es[i]? = some e → e.length = sz)
      (hcell : ∀ (i : Nat) (e : List SV) (j : Nat) (s : SV), es[i]? = some e → e[j]? = some s → w.cell? (ad.add (i * sz + j)) = some (val i j))
      (hone : ∀ (i : Nat) (e : List SV) (j : Nat) (s : SV), es[i]? = some e → e[j]? = some s → (val i j).oneCell' = true)
      (hrep : ∀ (i : Nat) (e : List SV) (j : Nat) (s : SV), es[i]? = some e → e[j]? = some s → Rep w E [] s (val i j)) : Rep w E σ (.rs sz es) (.slice (some ad) es.length c)
  | rp {σ : Sg} {sz : Nat} {es : List (List SV)} {ad : Addr} {i f : Nat} {val : Nat → Nat → Value} (hE : ¬ E ad.block) (hlt : ad.block < w.heap.size)
      (hlen : ∀ (i : Nat) (e : List SV), es[i]? = some e → e.length = sz)
      (hcell : ∀ (i : Nat) (e : List SV) (j : Nat) (s : SV), es[i]? = some e → e[j]? = some s → w.cell? (ad.add (i * sz + j)) = some (val i j))
      (hone : ∀ (i : Nat) (e : List SV) (j : Nat) (s : SV), es[i]? = some e → e[j]? = some s → (val i j).oneCell' = true)
      (hrep : ∀ (i : Nat) (e : List SV) (j : Nat) (s : SV), es[i]? = some e → e[j]? = some s → Rep w E [] s (val i j)) : Rep w E σ (.rp sz es i f) (.pointer (some (ad.add (i * sz + f))))
  | fn {σ : Sg} {f : FuncId} {cs : List SV} {vs : Array Value} (hl : cs.length = vs.size)
      (h : ∀ (i : Nat) (s : SV) (v : Value), cs[i]? = some s → vs[i]? = some v → Rep w E σ s v) : Rep w E σ (.fn f cs) (.func (.func f) #[] vs)
  | ln {σ : Sg} {a : Option Addr} {n c : Nat} : Rep w E σ (.ln n) (.slice a n c)

theorem add_block (a : Addr) (n : Nat) : (a.add n).block = a.block := by unfold Addr.add; split <;> rfl
theorem add_add (a : Addr) (i j : Nat) : (a.add i).add j = a.add (i + j) := by
  unfold Addr.add
  by_cases hi : i = 0 <;> by_cases hj : j = 0 <;> simp [hi, hj, Nat.add_assoc]

theorem Rep.mono {w w' : World} {E E' : Nat → Prop} {σ : Sg} {s : SV} {v : Value} (h : Rep w E σ s v) :
    ∀ σ' : Sg, (∀ g, g < w.heap.size → ¬ E g → w'.heap[g]? = w.heap[g]?) → w.heap.size ≤ w'.heap.size → (∀ g, g < w.heap.size → ¬ E g → ¬ E' g) →
    (∀ (i : Nat) (e : Ent), σ[i]? = some e → e ≠ .fresh → σ'[i]? = some e ∨ σ'[i]? = some .dead) → Rep w' E' σ' s v := by
  induction h with
  | any => intros; exact .any
  | undef => intros; exact .undef
  | int => intros; exact .int
  | tt => intros; exact .tt
  | ff => intros; exact .ff
  | bool => intros; exact .bool
  | qb h => intros; exact .qb h
  | str => intros; exact .str
  | agg hl h1 h ih => intro σ' hw hs hE hσ; exact .agg hl h1 fun i s v hs' hv => ih i s v hs' hv σ' hw hs hE hσ
  | tup hl h ih => intro σ' hw hs hE hσ; exact .tup hl fun i s v hs' hv => ih i s v hs' hv σ' hw hs hE hσ
  | nilp => intros; exact .nilp
  | nils => intros; exact .nils
  | ptr h => intro σ' _ _ _ hσ; exact (hσ _ _ h (by simp)).elim (fun h => .ptr h) (fun h => .ptrD h)
  | ptrD h => intro σ' _ _ _ hσ; exact (hσ _ _ h (by simp)).elim (fun h => .ptrD h) (fun h => .ptrD h)
  | ep h => intro σ' _ _ _ hσ; exact (hσ _ _ h (by simp)).elim (fun h => .ep h) (fun h => .epD h)
  | epD h => intro σ' _ _ _ hσ; exact (hσ _ _ h (by simp)).elim (fun h => .epD h) (fun h => .epD h)
  | sl h => intro σ' _ _ _ hσ; exact (hσ _ _ h (by simp)).elim (fun h => .sl h) (fun h => .slD h)
  | slN h => intro σ' _ _ _ hσ; exact (hσ _ _ h (by simp)).elim (fun h => .slN h) (fun h => .slD h)
  | slD h => intro σ' _ _ _ hσ; exact (hσ _ _ h (by simp)).elim (fun h => .slD h) (fun h => .slD h)
  | rs0 hc => intros; exact .rs0 hc
  | rs hc hm hE0 hlt hlen hcell hone hrep ih =>
    intro σ' hw hs hE hσ
    refine .rs hc hm (hE _ hlt hE0) (Nat.lt_of_lt_of_le hlt hs) hlen (fun i e j s he hs' => ?_) hone (fun i e j s he hs' => ih i e j s he hs' [] hw hs hE (by simp))
    rw [← hcell i e j s he hs']
    refine World.cell?_of_block ?_
    rw [add_block]
    exact hw _ hlt hE0
  | rp hE0 hlt hlen hcell hone hrep ih =>
    intro σ' hw hs hE hσ
    refine .rp (hE _ hlt hE0) (Nat.lt_of_lt_of_le hlt hs) hlen (fun i e j s he hs' => ?_) hone (fun i e j s he hs' => ih i e j s he hs' [] hw hs hE (by simp))
    rw [← hcell i e j s he hs']
    refine World.cell?_of_block ?_
    rw [add_block]
    exact hw _ hlt hE0
  | fn hl h ih => intro σ' hw hs hE hσ; exact .fn hl fun i s v hs' hv => ih i s v hs' hv σ' hw hs hE hσ
  | ln => intros; exact .ln

/-- A row's cells; none of them is frozen (a converted string's row has a mark behind its end). -/
def RowAt (w : World) (g : Nat) (vs : Array Value) (T : TypeId) : Prop := ∃ fr : Nat × Nat, w.heap[g]? = some (.cells vs T fr) ∧ (∀ k, k < vs.size → ¬ (fr.1 ≤ k ∧ k < fr.2)) ∧ fr.1 ≤ fr.2
theorem RowAt.of {w : World} {g : Nat} {vs : Array Value} {T : TypeId} (h : w.heap[g]? = some (.cells vs T (0, 0))) : RowAt w g vs T := ⟨_, h, fun k _ h => absurd h.2 (Nat.not_lt_zero k), Nat.le_refl _⟩
theorem RowAt.same {w w' : World} {g : Nat} {vs : Array Value} {T : TypeId} (h : RowAt w g vs T) (hg : w'.heap[g]? = w.heap[g]?) : RowAt w' g vs T := by
  obtain ⟨fr, h1, h2⟩ := h
  exact ⟨fr, hg.trans h1, h2⟩

/-- What a block holds. -/
def BlkOK (w : World) (E : Nat → Prop) (σ : Sg) : Blk → Ent → Prop
  | .fresh, .fresh => True
  | .dead, .dead => True
  | .fix T cs, .fix g => ∃ vs : Array Value, w.heap[g]? = some (.cells vs T (0, 0)) ∧ cs.length = vs.size ∧
      ∀ (i : Nat) (s : SV) (v : Value), cs[i]? = some s → vs[i]? = some v → Rep w E σ s v ∧ v.oneCell' = true
  | .row T sz es, .row g sz' n cap => sz' = sz ∧ n = es.length ∧ n ≤ cap ∧ cap ≤ maxLen ∧ ∃ vs : Array Value, RowAt w g vs T ∧ vs.size = cap * sz ∧
      ∀ (i : Nat) (e : List SV), es[i]? = some e → e.length = sz ∧ ∀ (j : Nat) (s : SV), e[j]? = some s → ∃ v, vs[i * sz + j]? = some v ∧ Rep w E [] s v ∧ v.oneCell' = true
  | .row _ _ es, .rownil => es = []
  | _, _ => False

structure Inv (w : World) (X : Nat → Prop) (σ : Sg) (h : Hp) : Prop where
  len : σ.length = h.length
  ok : ∀ (i : Nat) (b : Blk) (e : Ent), h[i]? = some b → σ[i]? = some e → BlkOK w (Ex X σ) σ b e
  lt : ∀ (i : Nat) (e : Ent) (g : Nat), σ[i]? = some e → e.blk = some g → g < w.heap.size
  inj : ∀ (i j : Nat) (e e' : Ent) (g : Nat), σ[i]? = some e → σ[j]? = some e' → e.blk = some g → e'.blk = some g → i = j
  dis : ∀ g, X g → ¬ Owned σ g
  xlt : ∀ g, X g → g < w.heap.size

/-- From (w, σ) to (w', σ'): what was not owned is as it was; the first m entries stay or die. -/
structure Step (m : Nat) (w : World) (σ : Sg) (w' : World) (σ' : Sg) : Prop where
  os : w'.os = w.os
  tape : w'.tape = w.tape
  output : w'.output = w.output
  size : w.heap.size ≤ w'.heap.size
  frame : ∀ g, g < w.heap.size → ¬ Owned σ g → w'.heap[g]? = w.heap[g]?
  blks : ∀ g, Owned σ' g → g < w.heap.size → Owned σ g
  ents : ∀ (i : Nat) (e : Ent), i < m → σ[i]? = some e → e ≠ .fresh → σ'[i]? = some e ∨ σ'[i]? = some .dead

theorem Step.refl (m : Nat) (w : World) (σ : Sg) : Step m w σ w σ := ⟨rfl, rfl, rfl, Nat.le_refl _, fun _ _ _ => rfl, fun _ h _ => h, fun _ _ _ h _ => .inl h⟩
theorem Step.trans {m : Nat} {w w' w'' : World} {σ σ' σ'' : Sg} (h : Step m w σ w' σ') (k : Step m w' σ' w'' σ'') : Step m w σ w'' σ'' where
  os := k.os.trans h.os
  tape := k.tape.trans h.tape
  output := k.output.trans h.output
  size := Nat.le_trans h.size k.size
  frame g hg ho := (k.frame g (Nat.lt_of_lt_of_le hg h.size) fun h' => ho (h.blks g h' hg)).trans (h.frame g hg ho)
  blks g ho hg := h.blks g (k.blks g ho (Nat.lt_of_lt_of_le hg h.size)) hg
  ents i e hi he hf := by
    rcases h.ents i e hi he hf with h1 | h1
    · exact k.ents i e hi h1 hf
    · rcases k.ents i _ hi h1 (by simp) with h2 | h2 <;> exact .inr h2
theorem Step.le {m m' : Nat} {w w' : World} {σ σ' : Sg} (h : Step m w σ w' σ') (hm : m' ≤ m) : Step m' w σ w' σ' :=
  ⟨h.os, h.tape, h.output, h.size, h.frame, h.blks, fun i e hi => h.ents i e (Nat.lt_of_lt_of_le hi hm)⟩

/-- Blocks that were there and are nobody's stay nobody's. -/
theorem Step.ex {m : Nat} {w w' : World} {X : Nat → Prop} {σ σ' : Sg} (h : Step m w σ w' σ') (g : Nat) (hg : g < w.heap.size) (hE : ¬ Ex X σ g) : ¬ Ex X σ' g := by
  rintro (hx | ho)
  · exact hE (.inl hx)
  · exact hE (.inr (h.blks g ho hg))

theorem Rep.step {m : Nat} {w w' : World} {X : Nat → Prop} {σ σ' : Sg} {s : SV} {v : Value} (h : Rep w (Ex X σ) σ s v) (k : Step m w σ w' σ') (hm : σ.length ≤ m) : Rep w' (Ex X σ') σ' s v :=
  h.mono σ' (fun g hg hE => k.frame g hg fun ho => hE (.inr ho)) k.size (fun g hg hE => k.ex g hg hE)
    fun i e he hf => k.ents i e (by have := (List.getElem?_eq_some_iff.1 he).1; omega) he hf
theorem Rep.step0 {m : Nat} {w w' : World} {X : Nat → Prop} {σ σ' : Sg} {s : SV} {v : Value} (h : Rep w (Ex X σ) [] s v) (k : Step m w σ w' σ') : Rep w' (Ex X σ') [] s v :=
  h.mono [] (fun g hg hE => k.frame g hg fun ho => hE (.inr ho)) k.size (fun g hg hE => k.ex g hg hE) (by simp)

/-- A frame. -/
def FRep (w : World) (E : Nat → Prop) (σ : Sg) (F : Fr) (a : Array Value) : Prop :=
  F.length = a.size ∧ ∀ (i : Nat) (s : SV) (v : Value), F[i]? = some s → a[i]? = some v → Rep w E σ s v
theorem FRep.step {m : Nat} {w w' : World} {X : Nat → Prop} {σ σ' : Sg} {F : Fr} {a : Array Value} (h : FRep w (Ex X σ) σ F a) (k : Step m w σ w' σ') (hm : σ.length ≤ m) : FRep w' (Ex X σ') σ' F a :=
  ⟨h.1, fun i s v hs hv => (h.2 i s v hs hv).step k hm⟩

/-- A block that is none of those that a step writes. -/
theorem BlkOK.step {m : Nat} {w w' : World} {X : Nat → Prop} {σ σ' : Sg} {b : Blk} {e : Ent} (h : BlkOK w (Ex X σ) σ b e) (k : Step m w σ w' σ') (hm : σ.length ≤ m)
    (hg : ∀ g, e.blk = some g → w'.heap[g]? = w.heap[g]?) : BlkOK w' (Ex X σ') σ' b e := by
  cases b <;> cases e <;> simp only [BlkOK] at h ⊢
  case fix.fix T cs g =>
    obtain ⟨vs, h1, h2, h3⟩ := h
    exact ⟨vs, (hg g rfl).trans h1, h2, fun i s v hs hv => ⟨(h3 i s v hs hv).1.step k hm, (h3 i s v hs hv).2⟩⟩
  case row.row T sz es g sz' n cap =>
    obtain ⟨h1, h2, h3, h4, vs, h5, h6, h7⟩ := h
    refine ⟨h1, h2, h3, h4, vs, h5.same (hg g rfl), h6, fun i e he => ⟨(h7 i e he).1, fun j s hs => ?_⟩⟩
    obtain ⟨v, a, b, c⟩ := (h7 i e he).2 j s hs
    exact ⟨v, a, b.step0 k, c⟩
  all_goals exact h

end Go.Sx

/- The symbolic executor of this seat's proofs: what a run of the program's code comes to, reckoned in the passing style (by recursors, so that Lean's kernel takes the elaborator's steps). No statement of the seat is proved here. -/
namespace Go.Sx

/-! ### types -/
inductive TI where
  | int (k : IntKind) | bool | str
  | struct (fs : List (Nat × TypeId × Nat))
  | array (n : Nat) (e : TypeId)
  | slice (e : TypeId)
  | ptr (e : TypeId)
  | other | none
  deriving Inhabited, DecidableEq

structure TE where
  ti : TI
  size : Nat
  bytes : Nat
  zero : List SV
  flat : Bool
  deriving Inhabited
abbrev Tab := List TE

/-! ### the passing style -/
noncomputable def nthK {α : Type} (l : List α) : Nat → (α → Prop) → Prop :=
  List.rec (motive := fun _ => Nat → (α → Prop) → Prop) (fun _ _ => False) (fun x _ ih n k => Nat.rec (motive := fun _ => Prop) (k x) (fun m _ => ih m k) n) l
noncomputable def setK {α : Type} (l : List α) : Nat → α → (List α → Prop) → Prop :=
  List.rec (motive := fun _ => Nat → α → (List α → Prop) → Prop) (fun _ _ _ => False)
    (fun x xs ih n v k => Nat.rec (motive := fun _ => Prop) (k (v :: xs)) (fun m _ => ih m v fun r => k (x :: r)) n) l
noncomputable def takeK {α : Type} (n : Nat) : List α → (List α → Prop) → Prop :=
  Nat.rec (motive := fun _ => List α → (List α → Prop) → Prop) (fun _ k => k [])
    (fun _ ih l k => List.rec (motive := fun _ => Prop) False (fun x xs _ => ih xs fun r => k (x :: r)) l) n
noncomputable def dropK {α : Type} (n : Nat) : List α → (List α → Prop) → Prop :=
  Nat.rec (motive := fun _ => List α → (List α → Prop) → Prop) (fun l k => k l)
    (fun _ ih l k => List.rec (motive := fun _ => Prop) False (fun _ xs _ => ih xs k) l) n
noncomputable def appK {α : Type} (l : List α) : List α → (List α → Prop) → Prop :=
  List.rec (motive := fun _ => List α → (List α → Prop) → Prop) (fun ys k => k ys) (fun x _ ih ys k => ih ys fun r => k (x :: r)) l
noncomputable def overK {α : Type} (l : List α) : List α → (List α → Prop) → Prop :=
  List.rec (motive := fun _ => List α → (List α → Prop) → Prop) (fun vs k => List.rec (motive := fun _ => Prop) (k []) (fun _ _ _ => False) vs)
    (fun x xs ih vs k => List.rec (motive := fun _ => Prop) (k (x :: xs)) (fun v vs' _ => ih vs' fun r => k (v :: r)) vs) l
/-- 'vs' laid over 'l' from place n on. -/
noncomputable def putK {α : Type} (l : List α) : Nat → List α → (List α → Prop) → Prop :=
  List.rec (motive := fun _ => Nat → List α → (List α → Prop) → Prop) (fun n vs k => Nat.rec (motive := fun _ => Prop) (overK [] vs k) (fun _ _ => False) n)
    (fun x xs ih n vs k => Nat.rec (motive := fun _ => Prop) (overK (x :: xs) vs k) (fun m _ => ih m vs fun r => k (x :: r)) n) l
noncomputable def repK {α : Type} (n : Nat) (x : α) (k : List α → Prop) : Prop := Nat.rec (motive := fun _ => (List α → Prop) → Prop) (fun k => k []) (fun _ ih k => ih fun r => k (x :: r)) n k

def neK (n : Nat) (k : Prop) : Prop := match n with | 0 => False | _ + 1 => k
def eqNK (a b : Nat) (k : Prop) : Prop := match Nat.beq a b with | true => k | false => False
def leNK (a b : Nat) (k : Prop) : Prop := match Nat.ble a b with | true => k | false => False

def supply : List Nat := [0,1,2,3,4,5,6,7,8,9,10,11,12,13,14,15,16,17,18,19,20,21,22,23,24,25,26,27,28,29,30,31,32,33,34,35,36,37,38,39,40,41,42,43,44,45,46,47,48,49,50,51,52,53,54,55,56,57,58,59,60,61,62,63]
/-- The next block's number, as a numeral. -/
noncomputable def idK (h : Hp) : List Nat → (Nat → Prop) → Prop :=
  List.rec (motive := fun _ => List Nat → (Nat → Prop) → Prop) (fun ns k => List.rec (motive := fun _ => Prop) False (fun n _ _ => k n) ns)
    (fun _ _ ih ns k => List.rec (motive := fun _ => Prop) False (fun _ ns' _ => ih ns' k) ns) h

def tyK (T : Tab) (t : TypeId) (k : TE → Prop) : Prop := nthK T t k

/-- The cells of a value: a value of one cell, or a struct's. -/
def cellsK (s : SV) (k : List SV → Prop) : Prop :=
  match s with
  | .agg cs => k cs
  | .bot => False | .any => False | .undef => False | .tup _ => False | .qb _ => False | .ln _ => False
  | .int q n => k [.int q n] | .tt => k [.tt] | .ff => k [.ff] | .bool b => k [.bool b] | .str s => k [.str s]
  | .nilp => k [.nilp] | .ptr b o => k [.ptr b o] | .ep b i f => k [.ep b i f] | .nils => k [.nils] | .sl b => k [.sl b]
  | .rs z es => k [.rs z es] | .rp z es i f => k [.rp z es i f] | .fn f cs => k [.fn f cs]

def ofV : Value → SV
  | .int k n => .int k n
  | .bool true => .tt
  | .bool false => .ff
  | .string s => .str s.data.toList
  | .pointer none => .nilp
  | .slice none 0 0 => .nils
  | _ => .any
def ofVK (v : Value) (k : SV → Prop) : Prop :=
  match v with
  | .int q n => k (.int q n)
  | .bool b => match b with | true => k .tt | false => k .ff
  | .string s => k (.str s.data.toList)
  | .pointer a => match a with | none => k .nilp | some _ => k .any
  | .slice a l c => match a with
    | none => match l, c with | 0, 0 => k .nils | _, _ => k .any
    | some _ => k .any
  | _ => k .any

noncomputable def evK (F : Fr) (x : Operand) (k : SV → Prop) : Prop :=
  match x with
  | .tmp t => nthK F t k
  | .const v => ofVK v k
  | .global _ => k .any
  | .func f => k (.fn f [])
noncomputable def evsK (F : Fr) (l : List Operand) : (List SV → Prop) → Prop :=
  List.rec (motive := fun _ => (List SV → Prop) → Prop) (fun k => k []) (fun x _ ih k => evK F x fun s => ih fun r => k (s :: r)) l

abbrev Ws := List (Nat × Blk)
abbrev Kop := SV → Ws → List Nat → Prop

def asB (s : SV) (k : Bool → Prop) : Prop :=
  match s with
  | .tt => k true
  | .ff => k false
  | .bool b => k b
  | _ => False

/-! ### operators -/
def intK (op : BinOp) (k : IntKind) (a b : Int) (K : SV → Prop) : Prop :=
  match op with
  | .add => K (.int k (k.wrap (a + b)))
  | .sub => K (.int k (k.wrap (a - b)))
  | .mul => K (.int k (k.wrap (a * b)))
  | .quo => b ≠ 0 ∧ K (.int k (k.wrap (a.tdiv b)))
  | .rem => b ≠ 0 ∧ K (.int k (a.tmod b))
  | .and => K (.int k (k.wrap ((BitVec.ofInt k.bits a &&& BitVec.ofInt k.bits b).toNat : Int)))
  | .or => K (.int k (k.wrap ((BitVec.ofInt k.bits a ||| BitVec.ofInt k.bits b).toNat : Int)))
  | .xor => K (.int k (k.wrap ((BitVec.ofInt k.bits a ^^^ BitVec.ofInt k.bits b).toNat : Int)))
  | .andNot => K (.int k (k.wrap ((BitVec.ofInt k.bits a &&& ~~~ BitVec.ofInt k.bits b).toNat : Int)))
  | .eql => K (.bool (decide (a = b)))
  | .neq => K (.bool (decide (¬ a = b)))
  | .lss => K (.bool (decide (a < b)))
  | .leq => K (.bool (decide (a ≤ b)))
  | .gtr => K (.bool (decide (b < a)))
  | .geq => K (.bool (decide (b ≤ a)))
  | _ => False

def boolK (op : BinOp) (a b : SV) (K : SV → Prop) : Prop :=
  match op with
  | .eql => asB a fun a => asB b fun b => K (.bool (a == b))
  | .neq => asB a fun a => asB b fun b => K (.bool (!(a == b)))
  | _ => False

def strK (op : BinOp) (a b : List UInt8) (K : SV → Prop) : Prop :=
  match op with
  | .add => (a.length : Int) + b.length ≤ 9223372036854775807 ∧ K (.str (a ++ b))
  | .eql => K (.bool (decide (a = b)))
  | .neq => K (.bool (!decide (a = b)))
  | .lss => K (.bool (Op.bytesLess a b))
  | .leq => K (.bool (Op.bytesLess a b || decide (a = b)))
  | .gtr => K (.bool (!(Op.bytesLess a b || decide (a = b))))
  | .geq => K (.bool (!Op.bytesLess a b))
  | _ => False

def isAggK (T : Tab) (t : TypeId) (k : Nat → Bool → Prop) : Prop := tyK T t fun te => match te.ti with
  | .struct _ => k te.size true
  | .array _ _ => k te.size true
  | .none => False
  | _ => k te.size false

/-- A part of a struct. -/
noncomputable def partK (T : Tab) (cs : List SV) (off : Nat) (t : TypeId) (k : SV → Prop) : Prop :=
  isAggK T t fun n agg => match agg with
    | true => dropK off cs fun r => takeK n r fun c => k (.agg c)
    | false => nthK cs off k

/-- Two values of one flat type. -/
noncomputable def eqK (T : Tab) (n : Nat) : TypeId → SV → SV → (Bool → Prop) → Prop :=
  Nat.rec (motive := fun _ => TypeId → SV → SV → (Bool → Prop) → Prop) (fun _ _ _ _ => False)
    (fun _ ih t x y k => tyK T t fun te => match te.ti, x, y with
      | .int _, .int q a, .int q' b => if q = q' then k (decide (a = b)) else False
      | .bool, x, y => asB x fun a => asB y fun b => k (a == b)
      | .str, .str a, .str b => k (decide (a = b))
      | .struct fs, .agg xs, .agg ys => match te.flat with
        | true => List.rec (motive := fun _ => (Bool → Prop) → Prop) (fun k => k true)
            (fun f _ ih' k => partK T xs f.1 f.2.1 fun a => partK T ys f.1 f.2.1 fun b => ih f.2.1 a b fun r => ih' fun r' => k (r && r')) fs k
        | false => False
      | _, _, _ => False) n

noncomputable def binK (T : Tab) (op : BinOp) (t : TypeId) (x y : SV) (K : SV → Prop) : Prop :=
  match x, y with
  | .int k a, .int k' b =>
    match op with
    | .shl => 0 ≤ b ∧ K (.int k (k.wrap (a * 2 ^ (min b.toNat k.bits))))
    | .shr => 0 ≤ b ∧ K (.int k (a.fdiv (2 ^ (min b.toNat k.bits))))
    | _ => if k = k' then intK op k a b K else False
  | .str a, .str b => strK op a b K
  | .tt, y => tyK T t fun te => match te.ti with | .bool => boolK op .tt y K | _ => False
  | .ff, y => tyK T t fun te => match te.ti with | .bool => boolK op .ff y K | _ => False
  | .bool b, y => tyK T t fun te => match te.ti with | .bool => boolK op (.bool b) y K | _ => False
  | .agg xs, .agg ys =>
    match op with
    | .eql => eqK T 8 t (.agg xs) (.agg ys) fun b => K (.bool b)
    | .neq => eqK T 8 t (.agg xs) (.agg ys) fun b => K (.bool (!b))
    | _ => False
  | .nilp, .nilp => tyK T t fun te => match te.ti, op with | .ptr _, .eql => K .tt | .ptr _, .neq => K .ff | _, _ => False
  | .ptr _ _, .nilp => tyK T t fun te => match te.ti, op with | .ptr _, .eql => K .ff | .ptr _, .neq => K .tt | _, _ => False
  | .ep _ _ _, .nilp => tyK T t fun te => match te.ti, op with | .ptr _, .eql => K .ff | .ptr _, .neq => K .tt | _, _ => False
  | .rp _ _ _ _, .nilp => tyK T t fun te => match te.ti, op with | .ptr _, .eql => K .ff | .ptr _, .neq => K .tt | _, _ => False
  | .rs _ es, .nils => tyK T t fun te => match te.ti, op with | .slice _, .eql => K (.qb (es = [])) | _, _ => False
  | _, _ => False

def unK (op : UnOp) (x : SV) (K : SV → Prop) : Prop :=
  match op, x with
  | .neg, .int k n => K (.int k (k.wrap (0 - n)))
  | .xor, .int k n => K (.int k (k.wrap ((BitVec.ofInt k.bits (if k.signed then -1 else k.max) ^^^ BitVec.ofInt k.bits n).toNat : Int)))
  | .not, .tt => K .ff
  | .not, .ff => K .tt
  | .not, .bool b => K (.bool (!b))
  | _, _ => False

/-! ### operations without a call -/
def byteCell (b : UInt8) : List SV := [.int .u8 (b.toNat : Int)]
/-- A type's zero value, if it is one that is written out. -/
def zeroK (z : List SV) (k : List SV → Prop) : Prop :=
  match z with
  | [] => k []
  | x :: xs => match x with
    | .bot => False
    | .int q n => k (.int q n :: xs)
    | .ff => k (.ff :: xs)
    | .nilp => k (.nilp :: xs)
    | .nils => k (.nils :: xs)
    | .str s => k (.str s :: xs)
    | _ => False
noncomputable def buildK (F : Fr) (fs : List (Nat × TypeId × Nat)) (ps : List (Nat × Operand)) : List SV → (List SV → Prop) → Prop :=
  List.rec (motive := fun _ => List SV → (List SV → Prop) → Prop) (fun cs k => k cs)
    (fun p _ ih cs k => nthK fs p.1 fun q => evK F p.2 fun s => cellsK s fun c => eqNK c.length q.2.2 (putK cs q.1 c fun cs' => ih cs' k)) ps
/-- Values that hang on no block of one's own. -/
def pureK (s : SV) (k : Prop) : Prop :=
  match s with
  | .int _ _ => k | .tt => k | .ff => k | .bool _ => k | .str _ => k | .nilp => k | .nils => k | .rs _ _ => k | .rp _ _ _ _ => k
  | _ => False
noncomputable def puresK (l : List SV) (k : Prop) : Prop := List.rec (motive := fun _ => Prop) k (fun x _ ih => pureK x ih) l
noncomputable def elemsK (F : Fr) (sz : Nat) (ps : List (Nat × Operand)) : List (List SV) → (List (List SV) → Prop) → Prop :=
  List.rec (motive := fun _ => List (List SV) → (List (List SV) → Prop) → Prop) (fun es k => k es)
    (fun p _ ih es k => evK F p.2 fun s => cellsK s fun c => eqNK c.length sz (puresK c (setK es p.1 c fun es' => ih es' k))) ps

/-- A place, as a numeral. -/
def AtG (n : Int) (k : Nat → Prop) : Prop := ∃ m : Nat, n = (m : Int) ∧ k m
/-- The bytes of a row. -/
def StrG (es : List (List SV)) (k : List UInt8 → Prop) : Prop := ∃ s, es = s.map byteCell ∧ k s

/-- Element i of a row. -/
def ElG (es : List (List SV)) (i : Nat) (k : List SV → Prop) : Prop := ∃ e, es[i]? = some e ∧ k e

/-- What lies at cells 'cs' from 'off' on, read at type t. -/
noncomputable def readK (T : Tab) (cs : List SV) (off : Nat) (t : TypeId) (k : SV → Prop) : Prop := partK T cs off t k

def isByteK (T : Tab) (e : TypeId) (k : Prop) : Prop := tyK T e fun te => match te.ti with | .int .u8 => k | _ => False
/-- What is appended to: the elements, the block that is given up, the block that is looked at. -/
def dstK (h : Hp) (e : TypeId) (z : Nat) (x : SV) (k : List (List SV) → Ws → List Nat → Prop) : Prop :=
  match x with
  | .nils => k [] [] []
  | .sl b => nthK h b fun blk => match blk with
    | .row t q es => eqNK t e (eqNK q z (k es [(b, .dead)] [b]))
    | _ => False
  | _ => False
/-- What is appended. -/
def srcK (T : Tab) (h : Hp) (u e : TypeId) (z : Nat) (zs : List SV) (x : SV) (k : List (List SV) → List Nat → Prop) : Prop :=
  tyK T u fun tu => match tu.ti, x with
  | .slice _, .rs q es => eqNK q z (k es [])
  | .slice _, .nils => k [] []
  | .slice _, .sl b => nthK h b fun blk => match blk with
    | .row _ q es => eqNK q z (k es [b])
    | _ => False
  | .str, .str s => isByteK T e (eqNK z 1 (k (s.map byteCell) []))
  | .int _, .int _ n => 0 ≤ n ∧ k (List.replicate n.toNat zs) []
  | _, _ => False
/-- The rows that a builtin takes: their elements' size and the elements; the blocks that are looked at. -/
def rowK (h : Hp) (x : SV) (k : Nat → List (List SV) → List Nat → Prop) : Prop :=
  match x with
  | .rs z es => k z es []
  | .sl b => nthK h b fun blk => match blk with
    | .row _ z es => k z es [b]
    | _ => False
  | _ => False

noncomputable def opK (T : Tab) (F : Fr) (h : Hp) (nid : Nat) (op : Op) (K : Kop) : Prop :=
  match op with
  | .move x => evK F x fun s => K s [] []
  | .assign x => evK F x fun s => K s [] []
  | .pick c a b => evK F c fun c => match c with
    | .tt => evK F a fun s => K s [] []
    | .ff => evK F b fun s => K s [] []
    | .bool x => evK F a fun a => asB a fun a => evK F b fun b => asB b fun b => K (.bool (cond x a b)) [] []
    | _ => False
  | .alloc t => tyK T t fun te => zeroK te.zero fun z => K (.ptr nid 0) [(nid, .fix t z)] [nid]
  | .box t x => evK F x fun s => cellsK s fun c => K (.ptr nid 0) [(nid, .fix t c)] [nid]
  | .binOp op t x y _ => evK F x fun x => evK F y fun y => binK T op t x y fun s => K s [] []
  | .unOp op _ x => evK F x fun x => unK op x fun s => K s [] []
  | .convert a d x => tyK T a fun ta => tyK T d fun te => evK F x fun x => match ta.ti, te.ti, x with
    | .none, _, _ => False
    | _, .int k, .int _ n => K (.int k (k.wrap n)) [] []
    | .str, .slice e, .str s => isByteK T e (s.length ≤ 4611686018427387903 ∧ K (.sl nid) [(nid, .row e 1 (s.map byteCell))] [nid])
    | .slice e, .slice _, .sl b => isByteK T e (eqNK a d (nthK h b fun blk => match blk with
      | .row t z es => (match es with | [] => False | x :: xs => K (.sl b) [(b, .row t z (x :: xs))] [b])
      | _ => False))
    | .slice e, .str, .nils => isByteK T e (K (.str []) [] [])
    | .slice e, .str, .rs z es => isByteK T e (eqNK z 1 (StrG es fun s => K (.str s) [] []))
    | .slice e, .str, .sl b => isByteK T e (nthK h b fun blk => match blk with
      | .row _ z es => eqNK z 1 (StrG es fun s => K (.str s) [] [b])
      | _ => False)
    | _, _, _ => False
  | .extract x i => evK F x fun x => match x with
    | .tup vs => nthK vs i fun s => K s [] []
    | _ => False
  | .build t ps => tyK T t fun te => match te.ti with
    | .struct fs => zeroK te.zero fun z => buildK F fs ps.toList z fun cs => K (.agg cs) [] []
    | .array _ e => tyK T e fun ee => zeroK ee.zero fun _ => (match ps.toList with
      | [] => zeroK te.zero fun z => K (.agg z) [] []
      | _ => False)
    | _ => False
  | .buildSlice t n ps => tyK T t fun te => match te.ti with
    | .slice e => tyK T e fun ee => zeroK ee.zero fun z => leNK (n * ee.size) 16777216 (leNK 1 ee.size (repK n z fun es => elemsK F ee.size ps.toList es fun es => K (.sl nid) [(nid, .row e ee.size es)] [nid]))
    | _ => False
  | .load t x => evK F x fun x => match x with
    | .ptr b off => nthK h b fun blk => match blk with
      | .fix _ cs => readK T cs off t fun s => K s [] [b]
      | _ => False
    | .ep b i f => nthK h b fun blk => match blk with
      | .row _ _ es => ElG es i fun e => readK T e f t fun s => K s [] [b]
      | _ => False
    | .rp _ es i f => ElG es i fun e => readK T e f t fun s => K s [] []
    | _ => False
  | .store t x v => evK F x fun x => evK F v fun v => cellsK v fun c => isAggK T t fun n _ => eqNK c.length n (match x with
    | .ptr b off => nthK h b fun blk => match blk with
      | .fix t cs => putK cs off c fun cs' => K .undef [(b, .fix t cs')] [b]
      | _ => False
    | .ep b i f => nthK h b fun blk => match blk with
      | .row t z es => puresK c (ElG es i fun e => putK e f c fun e' => K .undef [(b, .row t z (es.set i e'))] [b])
      | _ => False
    | _ => False)
  | .fieldAddr t x f => tyK T t fun te => evK F x fun x => match te.ti, x with
    | .struct fs, .ptr b off => nthK fs f fun p => neK p.2.2 (K (.ptr b (off + p.1)) [] [])
    | .struct fs, .ep b i o => nthK fs f fun p => neK p.2.2 (K (.ep b i (o + p.1)) [] [])
    | .struct fs, .rp z es i o => nthK fs f fun p => neK p.2.2 (K (.rp z es i (o + p.1)) [] [])
    | _, _ => False
  | .indexAddr t x i => tyK T t fun te => evK F x fun x => evK F i fun i => match te.ti, x, i with
    | .slice e, .rs z es, .int _ n => isAggK T e fun q _ => match Nat.beq q z with
      | true => (0 ≤ n ∧ n < (es.length : Int)) ∧ K (.rp z es n.toNat 0) [] []
      | false => False
    | .slice e, .sl b, .int _ n => nthK h b fun blk => match blk with
      | .row _ z es => isAggK T e fun q _ => match Nat.beq q z with
        | true => (0 ≤ n ∧ n < (es.length : Int)) ∧ K (.ep b n.toNat 0) [] [b]
        | false => False
      | _ => False
    | .array len e, .ptr b off, .int _ n => isAggK T e fun q _ => (0 ≤ n ∧ n < (len : Int)) ∧ AtG n fun m => K (.ptr b (off + m * q)) [] []
    | _, _, _ => False
  | .nilCheck x => evK F x fun x => match x with
    | .ptr b o => K (.ptr b o) [] []
    | .ep b i f => K (.ep b i f) [] []
    | .rp z es i f => K (.rp z es i f) [] []
    | _ => False
  | .slice t x lo hi mx => tyK T t fun te => evK F x fun x => match mx with
    | some _ => False
    | none => boundK F lo 0 fun l => match te.ti, x with
      | .str, .str s => boundK F hi s.length fun u => (0 ≤ l ∧ l ≤ u ∧ u ≤ (s.length : Int)) ∧ K (.str ((s.take u.toNat).drop l.toNat)) [] []
      | .slice e, .rs z es => isAggK T e fun q _ => match Nat.beq q z with
        | true => boundK F hi es.length fun u => (0 ≤ l ∧ l ≤ u ∧ u ≤ (es.length : Int)) ∧ K (.rs z ((es.take u.toNat).drop l.toNat)) [] []
        | false => False
      | _, _ => False
  | .index t x i => tyK T t fun te => evK F x fun x => evK F i fun i => match te.ti, x, i with
    | .str, .str s, .int _ n => (0 ≤ n ∧ n < (s.length : Int)) ∧ K (.int .u8 ((s.getD n.toNat 0).toNat : Int)) [] []
    | _, _, _ => False
  | .field t x f => tyK T t fun te => evK F x fun x => match te.ti, x with
    | .struct fs, .agg cs => nthK fs f fun p => partK T cs p.1 p.2.1 fun s => K s [] []
    | _, _ => False
  | .makeFunc fn first caps => match fn, first.toList with
    | .func f, [] => evsK F caps.toList fun l => K (.fn f l) [] []
    | _, _ => False
  | .makeSlice t n c => tyK T t fun te => match te.ti with
    | .slice e => tyK T e fun ee => zeroK ee.zero fun z => evK F n fun n => evK F c fun c => match n, c with
      | .int _ n, .int _ c => (c = n ∧ 0 ≤ n ∧ n * ee.bytes ≤ 281474976710656 ∧ n ≤ 9223372036854775807 ∧ 0 < ee.size) ∧ K (.sl nid) [(nid, .row e ee.size (List.replicate n.toNat z))] [nid]
      | _, _ => False
    | _ => False
  | .call c => match c.callee with
    | .builtin .len => evsK F c.args.toList fun l => match c.argTypes.toList with
      | [t] => tyK T t fun te => match te.ti, l with
        | .str, [.str s] => K (.int .i64 (s.length : Int)) [] []
        | .slice _, [.nils] => K (.int .i64 0) [] []
        | .slice _, [.rs _ es] => K (.int .i64 (es.length : Int)) [] []
        | .slice _, [.ln n] => K (.int .i64 (n : Int)) [] []
        | .slice _, [.sl b] => nthK h b fun blk => match blk with
          | .row _ _ es => K (.int .i64 (es.length : Int)) [] [b]
          | _ => False
        | _, _ => False
      | _ => False
    | .builtin .min => evsK F c.args.toList fun l => match l with
      | [.int k x, .int _ y] => K (.int k (if y < x then y else x)) [] []
      | [.int k x, .int _ y, .int _ z] => K (.int k (if z < (if y < x then y else x) then z else (if y < x then y else x))) [] []
      | _ => False
    | .builtin .max => evsK F c.args.toList fun l => match l with
      | [.int k x, .int _ y] => K (.int k (if y > x then y else x)) [] []
      | [.int k x, .int _ y, .int _ z] => K (.int k (if z > (if y > x then y else x) then z else (if y > x then y else x))) [] []
      | _ => False
    | .builtin .append => evsK F c.args.toList fun l => match c.argTypes.toList with
      | [t, u] => tyK T t fun te => match te.ti with
        | .slice e => tyK T e fun ee => zeroK ee.zero fun zs => leNK 1 ee.size (match l with
          | [s, x] => dstK h e ee.size s fun es kill rd => srcK T h u e ee.size zs x fun xs rd' =>
            (es.length + xs.length ≤ 4611686018427387903 ∧ (es.length + xs.length) * ee.bytes ≤ 140737488355328) ∧ K (.sl nid) ((nid, .row e ee.size (es ++ xs)) :: kill) (nid :: (rd ++ rd'))
          | _ => False)
        | _ => False
      | _ => False
    | _ => False
  | _ => False
where
  boundK (F : Fr) (x : Option Operand) (d : Nat) (k : Int → Prop) : Prop :=
    match x with
    | none => k (d : Int)
    | some x => evK F x fun s => match s with
      | .int _ n => k n
      | _ => False

noncomputable def updK (ws : Ws) : Hp → (Hp → Prop) → Prop :=
  List.rec (motive := fun _ => Hp → (Hp → Prop) → Prop) (fun h k => k h) (fun p _ ih h k => setK h p.1 p.2 fun h' => ih h' k) ws
def upd (ws : Ws) (h : Hp) : Hp := ws.foldl (fun h p => h.set p.1 p.2) h

noncomputable def slB (T : Tab) (t : TypeId) : Bool :=
  List.rec (motive := fun _ => Nat → Bool) (fun _ => false) (fun te _ ih n => Nat.rec (motive := fun _ => Bool) (match te.ti with | .slice _ => true | _ => false) (fun m _ => ih m) n) T t
noncomputable def allocs (T : Tab) (op : Op) : Bool :=
  match op with
  | .alloc _ => true
  | .box _ _ => true
  | .buildSlice .. => true
  | .makeSlice .. => true
  | .convert _ d _ => slB T d
  | .call c => match c.callee with | .builtin .append => true | _ => false
  | _ => false

/-! ### what a call, a loop comes to: in the memory's own words -/
/-- A piece of the model's work, done, with what is then known. -/
def DoneS (P : Program) (m : Sem Next) (w : World) (R : Value → World → Prop) : Prop :=
  match m.run P w with
  | .ok (.value v) w' => R v w'
  | .ok .skip w' => R Go.undef w'
  | .ok (.enter f args) w' => Calls P f args w' fun e w'' => ∃ v, e = .returned v ∧ R v w''
  | _ => False

def RepL (w : World) (E : Nat → Prop) (σ : Sg) (ss : List SV) (vs : List Value) : Prop :=
  ss.length = vs.length ∧ ∀ (i : Nat) (s : SV) (v : Value), ss[i]? = some s → vs[i]? = some v → Rep w E σ s v

/-- A call of function f at these arguments, from heap h on, hands back s and leaves h', of which K holds. -/
structure CallG (P : Program) (f : FuncId) (args : List SV) (h : Hp) (K : SV → Hp → Prop) : Prop where
  ok : ∀ (w : World) (X : Nat → Prop) (σ : Sg) (vs : List Value), Inv w X σ h → RepL w (Ex X σ) σ args vs →
    DoneS P (callFunc f vs.toArray) w fun v w' => ∃ s h' σ', K s h' ∧ Rep w' (Ex X σ') σ' s v ∧ Inv w' X σ' h' ∧ Step σ.length w σ w' σ'

inductive SX where
  | normal | exit (id : Nat) | ret
abbrev Post := SX → Fr → Hp → Prop
def SX.of : Exit → Option SX
  | .normal => some .normal
  | .exit id => some (.exit id)
  | .ret => some .ret
  | _ => none

def SPost (m : Nat) (X : Nat → Prop) (w0 : World) (σ0 : Sg) (K : Post) (e : Exit) (a : Act) (w : World) : Prop :=
  a.defers = [] ∧ ∃ x F h σ, SX.of e = some x ∧ K x F h ∧ Inv w X σ h ∧ FRep w (Ex X σ) σ F a.tmps ∧ Step m w0 σ0 w σ

/-- A piece of code, from frame F and heap h on, comes to K. -/
def SOK (P : Program) (m : Nat) (c : Code) (F : Fr) (h : Hp) (K : Post) : Prop :=
  ∀ (w : World) (X : Nat → Prop) (σ : Sg) (tmps : Array Value), Inv w X σ h → FRep w (Ex X σ) σ F tmps → c.wp P (SPost m X w σ K) ⟨tmps, []⟩ w

structure LoopG (P : Program) (m : Nat) (c : Code) (F : Fr) (h : Hp) (K : Post) : Prop where
  ok : SOK P m (.loop c) F h K
structure DrawG (P : Program) (m : Nat) (id : Nat) (ops : Array Oper) (F : Fr) (h : Hp) (K : Fr → Hp → Prop) : Prop where
  ok : SOK P m (.region id ops true) F h fun x F h => x = .normal ∧ K F h

/-! ### the executor -/
noncomputable def oneK (P : Program) (T : Tab) (F : Fr) (h : Hp) (op : Op) (K : SV → Hp → Prop) : Prop :=
  match op with
  | .call { callee := .value x, args := xs, .. } => evK F x fun x => match x with
    | .fn f cs => evsK F xs.toList fun l => appK l cs fun l => CallG P f l h K
    | _ => False
  | op => match allocs T op with
    | true => idK h supply fun n => appK h [.fresh] fun h' => opK T F h' n op fun s ws _ => updK ws h' fun h'' => K s h''
    | false => opK T F h 0 op fun s ws _ => updK ws h fun h'' => K s h''

noncomputable def putD (F : Fr) (d : Option Tmp) (s : SV) (K : Fr → Prop) : Prop :=
  match d with
  | none => K F
  | some d => setK F d s K

def dstOf (ops : List Oper) (j : Nat) : Option Tmp := (ops[j]?).bind (·.dst)

noncomputable def guardK (ops : List Oper) (F : Fr) (g : Option (Nat × Bool)) (yes no : Fr → Prop) : Prop :=
  match g with
  | none => yes F
  | some (j, want) => match dstOf ops j with
    | none => False
    | some d => nthK F d fun s => match s, want with
      | .tt, true => yes F
      | .tt, false => no F
      | .ff, true => no F
      | .ff, false => yes F
      | .undef, _ => no F
      | .bool b, true => (b = true → setK F d .tt yes) ∧ (b = false → setK F d .ff no)
      | .bool b, false => (b = true → setK F d .tt no) ∧ (b = false → setK F d .ff yes)
      | _, _ => False

noncomputable def opsK (P : Program) (T : Tab) (all : List Oper) (l : List Oper) : Fr → Hp → (Fr → Hp → Prop) → Prop :=
  List.rec (motive := fun _ => Fr → Hp → (Fr → Hp → Prop) → Prop) (fun F h K => K F h)
    (fun o _ ih F h K => guardK all F o.guard
      (fun F => oneK P T F h o.op fun s h' => putD F o.dst s fun F' => ih F' h' K)
      (fun F => putD F o.dst .undef fun F' => ih F' h K)) l

noncomputable def codeK (P : Program) (T : Tab) (m : Nat) (c : Code) : Fr → Hp → Post → Prop :=
  Code.rec (motive := fun _ => Fr → Hp → Post → Prop)
    (fun F h K => K .normal F h)
    (fun id ops draw F h K => match draw with
      | false => opsK P T ops.toList ops.toList F h (K .normal)
      | true => DrawG P m id ops F h (K .normal))
    (fun _ _ iha ihb F h K => iha F h fun x F h => match x with
      | .normal => ihb F h K
      | .exit i => K (.exit i) F h
      | .ret => K .ret F h)
    (fun c _ _ iha ihb F h K => evK F c fun s => match s with
      | .tt => iha F h K
      | .ff => ihb F h K
      | .qb p => (p → iha F h K) ∧ ihb F h K
      | .bool x => match c with
        | .tmp d => (x = true → setK F d .tt fun F => iha F h K) ∧ (x = false → setK F d .ff fun F => ihb F h K)
        | _ => False
      | _ => False)
    (fun id _ ih F h K => ih F h fun x F h => match x with
      | .normal => K .normal F h
      | .exit i => match Nat.beq i id with
        | true => K .normal F h
        | false => K (.exit i) F h
      | .ret => K .ret F h)
    (fun c _ F h K => LoopG P m c F h K)
    (fun _ _ _ _ _ _ _ _ _ => False)
    (fun id F h K => K (.exit id) F h)
    (fun _ ih F h K => ih F h K)
    (fun _ F h K => K .normal F h)
    (fun _ _ _ _ => False)
    (fun F h K => K .ret F h)
    (fun _ _ _ _ => False) c

noncomputable def resK (h : Hp) (F : Fr) (T : Tab) (l : List ResultVar) : (List SV → Prop) → Prop :=
  List.rec (motive := fun _ => (List SV → Prop) → Prop) (fun k => k [])
    (fun r _ ih k => match r with
      | .tmp t => nthK F t fun s => ih fun r => k (s :: r)
      | .cell a t => nthK F a fun s => match s with
        | .ptr b off => nthK h b fun blk => match blk with
          | .fix _ cs => readK T cs off t fun s => ih fun r => k (s :: r)
          | _ => False
        | _ => False) l
def tupK (l : List SV) (k : SV → Prop) : Prop :=
  match l with
  | [s] => k s
  | [] => k (.tup [])
  | s :: s' :: l => k (.tup (s :: s' :: l))
noncomputable def retK (T : Tab) (fn : Func) (R : SV → Hp → Prop) : Post := fun x F h => match x with
  | .normal => resK h F T fn.results.toList fun l => tupK l fun s => R s h
  | .ret => resK h F T fn.results.toList fun l => tupK l fun s => R s h
  | .exit _ => False

noncomputable def startK (args : List SV) (n : Nat) (k : Fr → Prop) : Prop := repK n SV.undef fun r => dropK args.length r fun r => appK args r k

end Go.Sx

/- The symbolic executor is sound: the passing style. No statement of the seat is proved here. -/
namespace Go.Sx

section
variable {α : Type} {k : List α → Prop}
theorem nthK_sound {l : List α} : ∀ {n : Nat} {k : α → Prop}, nthK l n k → ∃ x, l[n]? = some x ∧ k x := by
  induction l with
  | nil => intro n k h; exact h.elim
  | cons x xs ih =>
    intro n k h
    cases n with
    | zero => exact ⟨x, rfl, h⟩
    | succ n => exact ih (n := n) h
theorem setK_sound {l : List α} : ∀ {n : Nat} {v : α} {k : List α → Prop}, setK l n v k → n < l.length ∧ k (l.set n v) := by
  induction l with
  | nil => intro n v k h; exact h.elim
  | cons x xs ih =>
    intro n v k h
    cases n with
    | zero => exact ⟨by simp, h⟩
    | succ n =>
      have := ih (n := n) (v := v) (k := fun r => k (x :: r)) h
      exact ⟨by simp; omega, this.2⟩
theorem takeK_sound : ∀ {n : Nat} {l : List α} {k : List α → Prop}, takeK n l k → n ≤ l.length ∧ k (l.take n) := by
  intro n
  induction n with
  | zero => intro l k h; exact ⟨by simp, by simpa using (show k [] from h)⟩
  | succ n ih =>
    intro l k h
    cases l with
    | nil => exact h.elim
    | cons x xs =>
      have := ih (l := xs) (k := fun r => k (x :: r)) h
      exact ⟨by simp; omega, this.2⟩
theorem dropK_sound : ∀ {n : Nat} {l : List α} {k : List α → Prop}, dropK n l k → n ≤ l.length ∧ k (l.drop n) := by
  intro n
  induction n with
  | zero => intro l k h; exact ⟨by simp, by simpa using (show k l from h)⟩
  | succ n ih =>
    intro l k h
    cases l with
    | nil => exact h.elim
    | cons x xs =>
      have := ih (l := xs) (k := k) h
      exact ⟨by simp; omega, this.2⟩
theorem appK_sound {l : List α} : ∀ {ys : List α} {k : List α → Prop}, appK l ys k → k (l ++ ys) := by
  induction l with
  | nil => intro ys k h; exact h
  | cons x xs ih => intro ys k h; exact ih (ys := ys) (k := fun r => k (x :: r)) h
theorem overK_sound {l : List α} : ∀ {vs : List α} {k : List α → Prop}, overK l vs k → vs.length ≤ l.length ∧ k (vs ++ l.drop vs.length) := by
  induction l with
  | nil =>
    intro vs k h
    cases vs with
    | nil => exact ⟨by simp, h⟩
    | cons v vs => exact h.elim
  | cons x xs ih =>
    intro vs k h
    cases vs with
    | nil => exact ⟨by simp, h⟩
    | cons v vs =>
      have := ih (vs := vs) (k := fun r => k (v :: r)) h
      exact ⟨by simp; omega, by simpa using this.2⟩
theorem putK_sound {l : List α} : ∀ {n : Nat} {vs : List α} {k : List α → Prop}, putK l n vs k → n + vs.length ≤ l.length ∧ k (l.take n ++ (vs ++ l.drop (n + vs.length))) := by
  induction l with
  | nil =>
    intro n vs k h
    cases n with
    | zero => have := overK_sound (l := ([] : List α)) h; simpa using this
    | succ n => exact h.elim
  | cons x xs ih =>
    intro n vs k h
    cases n with
    | zero => have := overK_sound (l := x :: xs) h; simpa using this
    | succ n =>
      have := ih (n := n) (vs := vs) (k := fun r => k (x :: r)) h
      refine ⟨by simp; omega, ?_⟩
      rw [show n + 1 + vs.length = (n + vs.length) + 1 by omega]
      simpa using this.2
theorem repK_sound {n : Nat} {x : α} : ∀ {k : List α → Prop}, repK n x k → k (List.replicate n x) := by
  induction n with
  | zero => intro k h; exact h
  | succ n ih => intro k h; exact ih (k := fun r => k (x :: r)) h
theorem idK_sound {h : Hp} : ∀ {ns : List Nat} {k : Nat → Prop}, idK h ns k → ∃ n, ns[h.length]? = some n ∧ k n := by
  induction h with
  | nil =>
    intro ns k h
    cases ns with
    | nil => exact h.elim
    | cons n ns => exact ⟨n, rfl, h⟩
  | cons b h ih =>
    intro ns k hh
    cases ns with
    | nil => exact hh.elim
    | cons n ns => simpa using ih (ns := ns) (k := k) hh
theorem neK_sound {n : Nat} {k : Prop} (h : neK n k) : n ≠ 0 ∧ k := by
  cases n with
  | zero => exact h.elim
  | succ n => exact ⟨by omega, h⟩
theorem eqNK_sound {a b : Nat} {k : Prop} (h : eqNK a b k) : a = b ∧ k := by
  unfold eqNK at h
  split at h
  · rename_i hb; exact ⟨Nat.eq_of_beq_eq_true hb, h⟩
  · exact h.elim
theorem leNK_sound {a b : Nat} {k : Prop} (h : leNK a b k) : a ≤ b ∧ k := by
  unfold leNK at h
  split at h
  · rename_i hb; exact ⟨Nat.le_of_ble_eq_true hb, h⟩
  · exact h.elim
theorem supply_get {i n : Nat} (h : supply[i]? = some n) : n = i := by
  have hlt : i < supply.length := (List.getElem?_eq_some_iff.1 h).1
  have : ∀ j, j < supply.length → supply[j]? = some j := by decide
  rw [this i hlt] at h
  exact (Option.some.inj h).symm
end

/-! ### what values are -/
theorem oneCell_of_cellsK {w : World} {E : Nat → Prop} {σ : Sg} {s : SV} {v : Value} {k : List SV → Prop} (h : Rep w E σ s v) (hk : cellsK s k) :
    ∃ cs : List SV, k cs ∧ cs.length = v.cells.size ∧ ∀ (i : Nat) (s : SV) (u : Value), cs[i]? = some s → v.cells[i]? = some u → Rep w E σ s u ∧ u.oneCell' = true := by
  cases h <;> simp only [cellsK] at hk
  case agg cs vs hl h1 h =>
    exact ⟨cs, hk, by simpa [Value.cells] using hl, fun i s u hs hu => ⟨h i s u hs hu, h1 i u hu⟩⟩
  all_goals first
    | exact hk.elim
    | (refine ⟨_, hk, rfl, ?_⟩
       intro i s u hs hu
       cases i with
       | zero =>
         simp [Value.cells] at hs hu
         subst hs; subst hu
         exact ⟨by first | (constructor; done) | (constructor <;> assumption) | exact .ptrD ‹_› | exact .epD ‹_› | exact .slD ‹_› | exact .slN ‹_›, rfl⟩
       | succ i => simp at hs)

theorem pureK_sound {s : SV} {k : Prop} (h : pureK s k) : k ∧ ∀ (w : World) (E : Nat → Prop) (σ σ' : Sg) (v : Value), Rep w E σ s v → Rep w E σ' s v := by
  cases s <;> simp only [pureK] at h <;> refine ⟨h, fun w E σ σ' v hr => ?_⟩ <;> cases hr <;> constructor <;> assumption
theorem puresK_sound {l : List SV} {k : Prop} (h : puresK l k) : k ∧ ∀ s ∈ l, ∀ (w : World) (E : Nat → Prop) (σ σ' : Sg) (v : Value), Rep w E σ s v → Rep w E σ' s v := by
  induction l with
  | nil => exact ⟨h, by simp⟩
  | cons x xs ih =>
    obtain ⟨h1, h2⟩ := pureK_sound (show pureK x (puresK xs k) from h)
    obtain ⟨h3, h4⟩ := ih h1
    refine ⟨h3, fun s hs => ?_⟩
    rcases List.mem_cons.1 hs with rfl | hs
    · exact h2
    · exact h4 s hs
theorem rep_str {w : World} {E : Nat → Prop} {σ : Sg} (s : ByteArray) : Rep w E σ (.str s.data.toList) (.string s) := by
  cases s with | mk d => exact .str
theorem rep_ofV {w : World} {E : Nat → Prop} {σ : Sg} {v : Value} {k : SV → Prop} (h : ofVK v k) : ∃ s, k s ∧ Rep w E σ s v := by
  unfold ofVK at h
  split at h
  · exact ⟨_, h, .int⟩
  · split at h
    · exact ⟨_, h, .tt⟩
    · exact ⟨_, h, .ff⟩
  · exact ⟨_, h, rep_str _⟩
  · split at h
    · exact ⟨_, h, .nilp⟩
    · exact ⟨_, h, .any⟩
  · split at h
    · split at h
      · exact ⟨_, h, .nils⟩
      · exact ⟨_, h, .any⟩
    · exact ⟨_, h, .any⟩
  · exact ⟨_, h, .any⟩

/-- What an operand reads, where the frame's slot is met. -/
def OpnRep (w : World) (E : Nat → Prop) (σ : Sg) (F : Fr) (ρ : Operand → Value) (x : Operand) : Prop :=
  match x with
  | .tmp t => ∀ s, F[t]? = some s → Rep w E σ s (ρ (.tmp t))
  | .const v => ρ (.const v) = v
  | .global _ => True
  | .func f => ρ (.func f) = .func (.func f) #[] #[]

theorem evK_sound {F : Fr} {x : Operand} {k : SV → Prop} (h : evK F x k) :
    ∃ s, k s ∧ ∀ (w : World) (E : Nat → Prop) (σ : Sg) (ρ : Operand → Value), OpnRep w E σ F ρ x → Rep w E σ s (ρ x) := by
  cases x with
  | tmp t =>
    obtain ⟨s, hs, hk⟩ := nthK_sound (show nthK F t k from h)
    exact ⟨s, hk, fun w E σ ρ hρ => hρ s hs⟩
  | const v =>
    have h : ofVK v k := h
    -- the witness does not hang on the world
    have : ∃ s, k s ∧ ∀ (w : World) (E : Nat → Prop) (σ : Sg), Rep w E σ s v := by
      unfold ofVK at h
      split at h
      · exact ⟨_, h, fun _ _ _ => .int⟩
      · split at h
        · exact ⟨_, h, fun _ _ _ => .tt⟩
        · exact ⟨_, h, fun _ _ _ => .ff⟩
      · exact ⟨_, h, fun _ _ _ => rep_str _⟩
      · split at h
        · exact ⟨_, h, fun _ _ _ => .nilp⟩
        · exact ⟨_, h, fun _ _ _ => .any⟩
      · split at h
        · split at h
          · exact ⟨_, h, fun _ _ _ => .nils⟩
          · exact ⟨_, h, fun _ _ _ => .any⟩
        · exact ⟨_, h, fun _ _ _ => .any⟩
      · exact ⟨_, h, fun _ _ _ => .any⟩
    obtain ⟨s, hk, hr⟩ := this
    exact ⟨s, hk, fun w E σ ρ hρ => by rw [show ρ (.const v) = v from hρ]; exact hr w E σ⟩
  | global g => exact ⟨.any, h, fun _ _ _ _ _ => .any⟩
  | func f => exact ⟨.fn f [], h, fun w E σ ρ hρ => by rw [show ρ (.func f) = _ from hρ]; exact .fn rfl (by simp)⟩

theorem evsK_sound {F : Fr} {l : List Operand} : ∀ {k : List SV → Prop}, evsK F l k →
    ∃ ss, k ss ∧ ∀ (w : World) (E : Nat → Prop) (σ : Sg) (ρ : Operand → Value), (∀ x ∈ l, OpnRep w E σ F ρ x) → RepL w E σ ss (l.map ρ) := by
  induction l with
  | nil => intro k h; exact ⟨[], h, fun w E σ ρ _ => ⟨rfl, by simp⟩⟩
  | cons x l ih =>
    intro k h
    obtain ⟨s, h1, hr⟩ := evK_sound (show evK F x (fun s => evsK F l fun r => k (s :: r)) from h)
    obtain ⟨ss, h2, hrs⟩ := ih h1
    refine ⟨s :: ss, h2, fun w E σ ρ hρ => ?_⟩
    have a := hr w E σ ρ (hρ x (by simp))
    have b := hrs w E σ ρ fun y hy => hρ y (by simp [hy])
    refine ⟨by simpa using b.1, fun i s' v hs hv => ?_⟩
    cases i with
    | zero => simp at hs hv; subst hs; subst hv; exact a
    | succ i => exact b.2 i s' v (by simpa using hs) (by simpa using hv)

theorem asB_sound {s : SV} {k : Bool → Prop} (h : asB s k) : ∃ b, k b ∧ ∀ (w : World) (E : Nat → Prop) (σ : Sg) (v : Value), Rep w E σ s v → v = .bool b := by
  unfold asB at h
  split at h
  · exact ⟨_, h, fun w E σ v hr => by cases hr; rfl⟩
  · exact ⟨_, h, fun w E σ v hr => by cases hr; rfl⟩
  · exact ⟨_, h, fun w E σ v hr => by cases hr; rfl⟩
  · exact h.elim

end Go.Sx

/- The symbolic executor is sound: types, new blocks, stores, loads. No statement of the seat is proved here. -/
namespace Go.Sx

/-! ### types -/
def tiOf (P : Program) (t : TypeId) : TI :=
  match P.underlying t with
  | some (.int k) => .int k
  | some .bool => .bool
  | some .string => .str
  | some (.struct fs) => if fs.toList.all (fun f => (P.info? f.type).isSome) then .struct (fs.toList.map fun f => (f.offset, f.type, P.cellsOf f.type)) else .none
  | some (.array n e) => .array n e
  | some (.slice e) => .slice e
  | some (.pointer e) => .ptr e
  | some _ => .other
  | none => .none
def flatOf (P : Program) (t : TypeId) : Bool :=
  match P.underlying t with
  | some (.struct fs) => !P.stoodInHeld t && fs.toList.all (fun f => f.name != "_") && !P.eqGuardType P.depth t
  | _ => false
def zeroOf (i : TypeInfo) : List SV :=
  match i.zero with
  | some z => if z.cells.toList.all (·.oneCell') && z.cells.size == i.size then z.cells.toList.map ofV else [.bot]
  | none => [.bot]
def teOf (P : Program) (t : TypeId) : TE :=
  match P.info? t with
  | none => ⟨.none, 0, 0, [.bot], false⟩
  | some i => ⟨tiOf P t, i.size, i.bytes, zeroOf i, flatOf P t⟩
def tabOf (P : Program) (n : Nat) : Tab := (List.range n).map (teOf P)
def TabOK (P : Program) (T : Tab) : Prop := ∀ t te, T[t]? = some te → te = teOf P t
theorem tabOf_ok (P : Program) (n : Nat) {T : Tab} (h : tabOf P n = T) : TabOK P T := by
  subst h
  intro t te ht
  simp only [tabOf, List.getElem?_map] at ht
  cases hr : (List.range n)[t]? with
  | none => rw [hr] at ht; simp at ht
  | some u =>
    rw [hr] at ht
    have : u = t := by
      have := List.getElem?_eq_some_iff.1 hr
      obtain ⟨h1, h2⟩ := this
      simpa using h2.symm
    subst this
    simpa using ht.symm

section
variable {P : Program} {T : Tab}
theorem tyK_sound (hT : TabOK P T) {t : TypeId} {k : TE → Prop} (h : tyK T t k) : k (teOf P t) := by
  obtain ⟨te, h1, h2⟩ := nthK_sound (show nthK T t k from h)
  rw [← hT t te h1]; exact h2

theorem info_of_ti {t : TypeId} (h : (teOf P t).ti ≠ .none) : ∃ i, P.info? t = some i ∧ teOf P t = ⟨tiOf P t, i.size, i.bytes, zeroOf i, flatOf P t⟩ := by
  unfold teOf at h ⊢
  split
  · rename_i hi; simp [hi] at h
  · rename_i i hi; exact ⟨i, hi, rfl⟩
theorem ti_of {t : TypeId} {x : TI} (h : (teOf P t).ti = x) (hx : x ≠ .none) : tiOf P t = x ∧ ∃ i, P.info? t = some i ∧ (teOf P t).size = i.size ∧ (teOf P t).bytes = i.bytes ∧ (teOf P t).zero = zeroOf i ∧ (teOf P t).flat = flatOf P t := by
  obtain ⟨i, hi, he⟩ := info_of_ti (P := P) (t := t) (by rw [h]; exact hx)
  rw [he] at h
  exact ⟨h, i, hi, by rw [he], by rw [he], by rw [he], by rw [he]⟩
theorem und_int {t : TypeId} {k : IntKind} (h : tiOf P t = .int k) : P.underlying t = some (.int k) := by
  unfold tiOf at h; split at h <;> (try split at h) <;> simp_all
theorem und_bool {t : TypeId} (h : tiOf P t = .bool) : P.underlying t = some .bool := by
  unfold tiOf at h; split at h <;> (try split at h) <;> simp_all
theorem und_str {t : TypeId} (h : tiOf P t = .str) : P.underlying t = some .string := by
  unfold tiOf at h; split at h <;> (try split at h) <;> simp_all
theorem und_struct {t : TypeId} {fs : List (Nat × TypeId × Nat)} (h : tiOf P t = .struct fs) :
    ∃ fields, P.underlying t = some (.struct fields) ∧ fs = (fields.toList.map fun f => (f.offset, f.type, P.cellsOf f.type)) ∧ ∀ f ∈ fields.toList, (P.info? f.type).isSome = true := by
  unfold tiOf at h
  split at h
  case h_4 fields hu =>
    split at h
    · rename_i hall
      injection h with h
      exact ⟨fields, hu, h.symm, fun f hf => List.all_eq_true.1 hall f hf⟩
    · simp at h
  all_goals simp at h
theorem und_array {t : TypeId} {n : Nat} {e : TypeId} (h : tiOf P t = .array n e) : P.underlying t = some (.array n e) := by
  unfold tiOf at h; split at h <;> (try split at h) <;> simp_all
theorem und_slice {t : TypeId} {e : TypeId} (h : tiOf P t = .slice e) : P.underlying t = some (.slice e) := by
  unfold tiOf at h; split at h <;> (try split at h) <;> simp_all
theorem und_ptr {t : TypeId} {e : TypeId} (h : tiOf P t = .ptr e) : P.underlying t = some (.pointer e) := by
  unfold tiOf at h; split at h <;> (try split at h) <;> simp_all

theorem run_underlying' {t : TypeId} {d : TypeDesc} (h : P.underlying t = some d) (w : World) : (underlying t).run P w = .ok d w := run_underlying h w
theorem run_info {t : TypeId} {i : TypeInfo} (h : P.info? t = some i) (w : World) : (typeInfo t).run P w = .ok i w := by
  simp [typeInfo, h]
theorem run_sizeOf {t : TypeId} {i : TypeInfo} (h : P.info? t = some i) (w : World) : (sizeOf t).run P w = .ok i.size w := by
  simp [sizeOf, run_info h]

/-- What 'isAgg' and 'sizeOf' answer. -/
theorem isAggK_sound (hT : TabOK P T) {t : TypeId} {k : Nat → Bool → Prop} (h : isAggK T t k) :
    ∃ n b, k n b ∧ (∀ w, (isAgg t).run P w = .ok b w) ∧ (∀ w, (sizeOf t).run P w = .ok n w) := by
  unfold isAggK at h
  have h := tyK_sound hT h
  have key : ∀ x : TI, (teOf P t).ti = x → x ≠ .none → (∀ b, (∀ w, (isAgg t).run P w = .ok b w) → k (teOf P t).size b → ∃ n b, k n b ∧ (∀ w, (isAgg t).run P w = .ok b w) ∧ (∀ w, (sizeOf t).run P w = .ok n w)) := by
    intro x hx hn b hb hk
    obtain ⟨_, i, hi, hs, _⟩ := ti_of hx hn
    exact ⟨_, b, hk, hb, fun w => by rw [hs]; exact run_sizeOf hi w⟩
  cases hti : (teOf P t).ti with
  | struct fs =>
    rw [hti] at h
    obtain ⟨fields, hu, _⟩ := und_struct (ti_of hti (by simp)).1
    exact key _ hti (by simp) true (fun w => by simp [isAgg, run_underlying' hu]) h
  | array n e =>
    rw [hti] at h
    have hu := und_array (ti_of hti (by simp)).1
    exact key _ hti (by simp) true (fun w => by simp [isAgg, run_underlying' hu]) h
  | none => rw [hti] at h; exact h.elim
  | int q => rw [hti] at h; exact key _ hti (by simp) false (fun w => by simp [isAgg, run_underlying' (und_int (ti_of hti (by simp)).1)]) h
  | bool => rw [hti] at h; exact key _ hti (by simp) false (fun w => by simp [isAgg, run_underlying' (und_bool (ti_of hti (by simp)).1)]) h
  | str => rw [hti] at h; exact key _ hti (by simp) false (fun w => by simp [isAgg, run_underlying' (und_str (ti_of hti (by simp)).1)]) h
  | slice e => rw [hti] at h; exact key _ hti (by simp) false (fun w => by simp [isAgg, run_underlying' (und_slice (ti_of hti (by simp)).1)]) h
  | ptr e => rw [hti] at h; exact key _ hti (by simp) false (fun w => by simp [isAgg, run_underlying' (und_ptr (ti_of hti (by simp)).1)]) h
  | other =>
    rw [hti] at h
    refine key _ hti (by simp) false (fun w => ?_) h
    have ho := (ti_of hti (by simp)).1
    cases hu : P.underlying t with
    | none => simp [tiOf, hu] at ho
    | some d => cases d <;> simp only [tiOf, hu] at ho <;> (try split at ho) <;> (try (simp at ho; done)) <;> simp [isAgg, run_underlying' hu]

/-! ### a new block -/
theorem owned_set {σ : Sg} {nid : Nat} {e : Ent} (g : Nat) : Owned (σ.set nid e) g → e.blk = some g ∨ Owned σ g := by
  rintro ⟨i, e', hi, hg⟩
  rw [List.getElem?_set] at hi
  split at hi
  · split at hi
    · simp at hi; subst hi; exact .inl hg
    · simp at hi
  · exact .inr ⟨i, e', hi, hg⟩
theorem fresh_of {w : World} {X : Nat → Prop} {σ : Sg} {h : Hp} (hI : Inv w X σ h) {n : Nat} (hf : h[n]? = some .fresh) : σ[n]? = some .fresh := by
  have hlt : n < h.length := (List.getElem?_eq_some_iff.1 hf).1
  have hs : n < σ.length := by rw [hI.len]; exact hlt
  have he : σ[n]? = some (σ[n]'hs) := List.getElem?_eq_getElem hs
  have := hI.ok n _ _ hf he
  rw [he]
  cases hσ : σ[n] <;> rw [hσ] at this <;> simp_all [BlkOK]

theorem alloc_step {w w' : World} {X : Nat → Prop} {σ : Sg} {h : Hp} (hI : Inv w X σ h) {n : Nat} (hf : h[n]? = some .fresh) {e : Ent} (he : e.blk = some w.heap.size)
    (ho : w'.os = w.os) (ht : w'.tape = w.tape) (hout : w'.output = w.output) {o : Obj} (hw : w'.heap = w.heap.push o) : Step σ.length w σ w' (σ.set n e) where
  os := ho
  tape := ht
  output := hout
  size := by rw [hw]; simp
  frame g hg _ := by rw [hw, Array.getElem?_push, if_neg (by omega)]
  blks g hg hlt := by
    rcases owned_set g hg with h1 | h1
    · rw [he] at h1; simp at h1; omega
    · exact h1
  ents i e' hi he' hne := by
    rw [List.getElem?_set]
    by_cases hin : n = i
    · subst hin; rw [fresh_of hI hf] at he'; simp at he'; exact absurd he'.symm hne
    · rw [if_neg hin]; exact .inl he'

theorem alloc_inv {w w' : World} {X : Nat → Prop} {σ : Sg} {h : Hp} (hI : Inv w X σ h) {n : Nat} (hf : h[n]? = some .fresh) {e : Ent} (he : e.blk = some w.heap.size)
    (ho : w'.os = w.os) (ht : w'.tape = w.tape) (hout : w'.output = w.output) {o : Obj} (hw : w'.heap = w.heap.push o) {b : Blk}
    (hb : BlkOK w' (Ex X (σ.set n e)) (σ.set n e) b e) : Inv w' X (σ.set n e) (h.set n b) := by
  have hS := alloc_step hI hf he ho ht hout hw
  have hσf := fresh_of hI hf
  have hnlt : n < σ.length := (List.getElem?_eq_some_iff.1 hσf).1
  refine ⟨by simp [hI.len], fun i b' e' hb' he' => ?_, fun i e' g he' hg => ?_, fun i j e1 e2 g h1 h2 g1 g2 => ?_, fun g hx ho' => ?_, fun g hx => ?_⟩
  · rw [List.getElem?_set] at hb' he'
    by_cases hin : n = i
    · subst hin
      have h2 : n < h.length := by rw [← hI.len]; exact hnlt
      rw [if_pos rfl, if_pos h2] at hb'
      rw [if_pos rfl, if_pos hnlt] at he'
      simp at hb' he'
      subst hb'; subst he'; exact hb
    · rw [if_neg hin] at hb' he'
      refine (hI.ok i b' e' hb' he').step hS (Nat.le_refl _) fun g hg => ?_
      rw [hw, Array.getElem?_push, if_neg (by have := hI.lt i e' g he' hg; omega)]
  · rw [List.getElem?_set] at he'
    rw [hw, Array.size_push]
    by_cases hin : n = i
    · subst hin
      rw [if_pos rfl, if_pos hnlt] at he'
      simp at he'; subst he'
      rw [he] at hg; simp at hg; omega
    · rw [if_neg hin] at he'
      have := hI.lt i e' g he' hg; omega
  · rw [List.getElem?_set] at h1 h2
    by_cases hi : n = i <;> by_cases hj : n = j
    · omega
    · subst hi
      rw [if_pos rfl, if_pos hnlt] at h1
      rw [if_neg hj] at h2
      simp at h1; subst h1
      rw [he] at g1; simp at g1; subst g1
      have := hI.lt j e2 _ h2 g2; omega
    · subst hj
      rw [if_pos rfl, if_pos hnlt] at h2
      rw [if_neg hi] at h1
      simp at h2; subst h2
      rw [he] at g2; simp at g2; subst g2
      have := hI.lt i e1 _ h1 g1; omega
    · rw [if_neg hi] at h1
      rw [if_neg hj] at h2
      exact hI.inj i j e1 e2 g h1 h2 g1 g2
  · rcases owned_set g ho' with h1 | h1
    · rw [he] at h1; simp at h1; subst h1; have := hI.xlt _ hx; omega
    · exact hI.dis g hx h1
  · have := hI.xlt g hx; rw [hw, Array.size_push]; omega

/-! ### a store into a block of one's own -/
theorem write_step {w w' : World} {σ : Sg} {n : Nat} {e : Ent} {g : Nat} (he : σ[n]? = some e) (hg : e.blk = some g)
    (ho : w'.os = w.os) (ht : w'.tape = w.tape) (hout : w'.output = w.output) (hs : w'.heap.size = w.heap.size) (hw : ∀ k, k ≠ g → w'.heap[k]? = w.heap[k]?) : Step σ.length w σ w' σ where
  os := ho
  tape := ht
  output := hout
  size := by omega
  frame k _ hk := hw k fun h => hk (h ▸ ⟨n, e, he, hg⟩)
  blks k hk _ := hk
  ents i e' _ he' _ := .inl he'

theorem write_inv {w w' : World} {X : Nat → Prop} {σ : Sg} {h : Hp} (hI : Inv w X σ h) {n : Nat} {e : Ent} {g : Nat} (he : σ[n]? = some e) (hg : e.blk = some g)
    (ho : w'.os = w.os) (ht : w'.tape = w.tape) (hout : w'.output = w.output) (hs : w'.heap.size = w.heap.size) (hw : ∀ k, k ≠ g → w'.heap[k]? = w.heap[k]?) {b : Blk}
    (hb : BlkOK w' (Ex X σ) σ b e) : Inv w' X σ (h.set n b) := by
  have hS := write_step he hg ho ht hout hs hw
  refine ⟨by simp [hI.len], fun i b' e' hb' he' => ?_, fun i e' k he' hk => by rw [hs]; exact hI.lt i e' k he' hk, hI.inj, hI.dis, fun k hx => by rw [hs]; exact hI.xlt k hx⟩
  rw [List.getElem?_set] at hb'
  by_cases hin : n = i
  · subst hin
    rw [he] at he'; simp at he'; subst he'
    split at hb'
    · split at hb'
      · simp at hb'; subst hb'; exact hb
      · simp at hb'
    · rename_i hc; exact absurd rfl hc
  · rw [if_neg hin] at hb'
    exact (hI.ok i b' e' hb' he').step hS (Nat.le_refl _) fun k hk => hw k fun hkg => hin (hI.inj n i e e' g he he' hg (hkg ▸ hk))

end
end Go.Sx

/- The symbolic executor is sound: operators and parts of values. No statement of the seat is proved here. -/
namespace Go.Sx
section
variable {P : Program} {T : Tab}

/-! ### parts -/
theorem partK_sound (hT : TabOK P T) {cs : List SV} {off : Nat} {t : TypeId} {k : SV → Prop} (h : partK T cs off t k) :
    ∃ s n b, k s ∧ (∀ w, (isAgg t).run P w = .ok b w) ∧ (∀ w, (sizeOf t).run P w = .ok n w) ∧
      (b = true → s = .agg ((cs.drop off).take n) ∧ off + n ≤ cs.length) ∧ (b = false → cs[off]? = some s) := by
  unfold partK at h
  obtain ⟨n, b, h, hb, hn⟩ := isAggK_sound hT h
  cases b with
  | true =>
    obtain ⟨h1, h⟩ := dropK_sound h
    obtain ⟨h2, h⟩ := takeK_sound h
    exact ⟨_, n, true, h, hb, hn, fun _ => ⟨rfl, by simp at h2; omega⟩, fun h => by simp at h⟩
  | false =>
    obtain ⟨s, h1, h⟩ := nthK_sound h
    exact ⟨s, n, false, h, hb, hn, fun h => by simp at h, fun _ => h1⟩

/-- A variable is read. -/
theorem load_sound {w : World} {E : Nat → Prop} {σ : Sg} {cs : List SV} {off : Nat} {t : TypeId} {s : SV} {n : Nat} {b : Bool} {a : Addr} (val : Nat → Value)
    (hb : (isAgg t).run P w = .ok b w) (hn : (sizeOf t).run P w = .ok n w) (h1 : b = true → s = .agg ((cs.drop off).take n) ∧ off + n ≤ cs.length) (h2 : b = false → cs[off]? = some s)
    (hc : ∀ j s, cs[off + j]? = some s → w.cell? (a.add j) = some (val j) ∧ Rep w E σ s (val j) ∧ (val j).oneCell' = true) :
    ∃ v, (loadVar t a).run P w = .ok v w ∧ Rep w E σ s v := by
  unfold loadVar
  cases b with
  | true =>
    obtain ⟨rfl, hlen⟩ := h1 rfl
    have hget : ∀ j, j < n → ∃ s, cs[off + j]? = some s := fun j hj => ⟨cs[off + j]'(by omega), List.getElem?_eq_getElem (by omega)⟩
    have hl := run_loadCells_list (P := P) (w := w) a ((List.range n).map val) (fun j v hv => by
      simp only [List.getElem?_map] at hv
      cases hr : (List.range n)[j]? with
      | none => rw [hr] at hv; simp at hv
      | some u =>
        rw [hr] at hv
        obtain ⟨hj, hu⟩ := List.getElem?_eq_some_iff.1 hr
        simp at hj hu
        subst hu
        simp at hv; subst hv
        obtain ⟨s, hs⟩ := hget j hj
        exact (hc j s hs).1)
    simp only [List.length_map, List.length_range] at hl
    refine ⟨.agg ((List.range n).map val).toArray, by simp [hb, hn, hl], .agg ?_ ?_ ?_⟩
    · simp; omega
    · intro i v hv
      simp only [List.getElem?_toArray, List.getElem?_map] at hv
      cases hr : (List.range n)[i]? with
      | none => rw [hr] at hv; simp at hv
      | some u =>
        rw [hr] at hv
        obtain ⟨hj, hu⟩ := List.getElem?_eq_some_iff.1 hr
        simp at hj hu
        subst hu
        simp at hv; subst hv
        obtain ⟨s, hs⟩ := hget i hj
        exact (hc i s hs).2.2
    · intro i s v hs hv
      simp only [List.getElem?_toArray, List.getElem?_map] at hv
      cases hr : (List.range n)[i]? with
      | none => rw [hr] at hv; simp at hv
      | some u =>
        rw [hr] at hv
        obtain ⟨hj, hu⟩ := List.getElem?_eq_some_iff.1 hr
        simp at hj hu
        subst hu
        simp at hv; subst hv
        rw [List.getElem?_take, if_pos hj, List.getElem?_drop] at hs
        exact (hc i s hs).2.1
  | false =>
    have hs := h2 rfl
    have := hc 0 s (by simpa using hs)
    have ha : a.add 0 = a := by simp [Addr.add]
    rw [ha] at this
    exact ⟨val 0, by simp [hb, this.1, load, Sem.run], this.2.1⟩

/-- A part of a value is read. -/
theorem part_sound {w : World} {E : Nat → Prop} {σ : Sg} {cs : List SV} {vs : Array Value} {off : Nat} {t : TypeId} {s : SV} {n : Nat} {b : Bool}
    (hb : (isAgg t).run P w = .ok b w) (hn : (sizeOf t).run P w = .ok n w) (h1 : b = true → s = .agg ((cs.drop off).take n) ∧ off + n ≤ cs.length) (h2 : b = false → cs[off]? = some s)
    (hl : cs.length = vs.size) (hone : ∀ (i : Nat) (v : Value), vs[i]? = some v → v.oneCell' = true) (hc : ∀ (i : Nat) (s : SV) (v : Value), cs[i]? = some s → vs[i]? = some v → Rep w E σ s v) :
    ∃ v, (part t vs off).run P w = .ok v w ∧ Rep w E σ s v := by
  unfold part
  cases b with
  | true =>
    obtain ⟨rfl, hlen⟩ := h1 rfl
    refine ⟨.agg (vs.extract off (off + n)), by simp [hb, hn], .agg ?_ ?_ ?_⟩
    · simp; omega
    · intro i v hv
      rw [Array.getElem?_extract] at hv
      split at hv
      · exact hone _ v hv
      · simp at hv
    · intro i s v hs hv
      rw [Array.getElem?_extract] at hv
      split at hv
      · rw [List.getElem?_take] at hs
        split at hs
        · rw [List.getElem?_drop] at hs
          exact hc _ s v hs hv
        · simp at hs
      · simp at hv
  | false =>
    have hs := h2 rfl
    have hlt : off < vs.size := by rw [← hl]; exact (List.getElem?_eq_some_iff.1 hs).1
    have hv : vs[off]? = some (vs[off]'hlt) := Array.getElem?_eq_getElem hlt
    exact ⟨vs[off]'hlt, by simp [hb, hv], hc off s _ hs hv⟩

/-! ### operators -/
theorem eqGuard_plain {op : BinOp} {t : TypeId} {x y : Operand} {a b : Value} {w : World} (h : (∀ cs, a ≠ .agg cs) ∧ a ≠ .nilIface) : (eqGuard op t x y a b).run P w = .ok () w := by
  cases op <;> (try rfl) <;> (cases a <;> first | rfl | exact absurd rfl h.2 | exact absurd rfl (h.1 _))

theorem eqK_sound (hT : TabOK P T) : ∀ (n : Nat) {t : TypeId} {x y : SV} {k : Bool → Prop}, eqK T n t x y k →
    ∃ r, k r ∧ ∀ (w : World) (E : Nat → Prop) (σ : Sg) (vx vy : Value) (d : Nat), n ≤ d → Rep w E σ x vx → Rep w E σ y vy → (Op.equalIn d t vx vy).run P w = .ok r w := by
  intro n
  induction n with
  | zero => intro t x y k h; exact h.elim
  | succ n ih =>
    intro t x y k h
    replace h := tyK_sound hT (show tyK T t _ from h)
    generalize hti : (teOf P t).ti = ti at h
    cases ti with
    | int q0 =>
      have hu := und_int (ti_of hti (by simp)).1
      cases x <;> cases y <;> simp only [] at h <;> try exact h.elim
      rename_i q a q' b
      split at h
      · rename_i hq
        subst hq
        refine ⟨_, h, fun w E σ vx vy d hd hx hy => ?_⟩
        obtain ⟨d, rfl⟩ : ∃ d', d = d' + 1 := ⟨d - 1, by omega⟩
        cases hx; cases hy
        rw [run_equalIn_int w d t q q0 a b hu]
        rfl
      · exact h.elim
    | bool =>
      have hu := und_bool (ti_of hti (by simp)).1
      replace h : asB x fun a => asB y fun b => k (a == b) := by cases x <;> cases y <;> simpa using h
      obtain ⟨a, h, ha⟩ := asB_sound h
      obtain ⟨b, h, hb⟩ := asB_sound h
      refine ⟨_, h, fun w E σ vx vy d hd hx hy => ?_⟩
      obtain ⟨d, rfl⟩ : ∃ d', d = d' + 1 := ⟨d - 1, by omega⟩
      rw [ha _ _ _ _ hx, hb _ _ _ _ hy, run_equalIn_bool' w d t a b hu]
    | str =>
      have hu := und_str (ti_of hti (by simp)).1
      cases x <;> cases y <;> simp only [] at h <;> try exact h.elim
      refine ⟨_, h, fun w E σ vx vy d hd hx hy => ?_⟩
      obtain ⟨d, rfl⟩ : ∃ d', d = d' + 1 := ⟨d - 1, by omega⟩
      cases hx; cases hy
      rw [run_equalIn_string w d t _ _ hu, ByteArray.toList_mk, ByteArray.toList_mk]
      congr 1
      rw [Bool.eq_iff_iff]; simp
    | struct fs =>
      obtain ⟨hti', i, _, _, _, _, hfl⟩ := ti_of hti (by simp)
      obtain ⟨fields, hu, hfs, _⟩ := und_struct hti'
      cases x <;> cases y <;> simp only [] at h <;> try exact h.elim
      rename_i xs ys
      rw [hfl] at h
      cases hflat : flatOf P t with
      | false => rw [hflat] at h; exact h.elim
      | true =>
        rw [hflat] at h
        unfold flatOf at hflat
        rw [hu] at hflat
        simp only [Bool.and_eq_true, Bool.not_eq_true', List.all_eq_true] at hflat
        obtain ⟨⟨hst, hnames⟩, _⟩ := hflat
        have hf : P.fieldsOf t = fields := by simp [Program.fieldsOf, hu]
        -- the fields, one by one
        have key : ∀ (l : List Field) (k : Bool → Prop), (∀ f ∈ l, (f.name != "_") = true) →
            List.rec (motive := fun _ => (Bool → Prop) → Prop) (fun k => k true)
              (fun (f : Nat × TypeId × Nat) _ ih' k => partK T xs f.1 f.2.1 fun a => partK T ys f.1 f.2.1 fun b => eqK T n f.2.1 a b fun r => ih' fun r' => k (r && r'))
              (l.map fun f => (f.offset, f.type, P.cellsOf f.type)) k →
            ∃ r, k r ∧ ∀ (w : World) (E : Nat → Prop) (σ : Sg) (vx vy : Array Value) (d : Nat), n ≤ d → Rep w E σ (.agg xs) (.agg vx) → Rep w E σ (.agg ys) (.agg vy) → (Op.eqFields d vx vy l).run P w = .ok r w := by
          intro l
          induction l with
          | nil => intro k _ h; exact ⟨true, h, fun w E σ vx vy d _ _ _ => rfl⟩
          | cons f l ihl =>
            intro k hn h
            obtain ⟨sa, na, ba, h, a1, a2, a3, a4⟩ := partK_sound hT (show partK T xs f.offset f.type _ from h)
            obtain ⟨sb, nb, bb, h, b1, b2, b3, b4⟩ := partK_sound hT h
            obtain ⟨r, h, hr⟩ := ih h
            obtain ⟨r', h, hr'⟩ := ihl _ (fun g hg => hn g (by simp [hg])) h
            refine ⟨r && r', h, fun w E σ vx vy d hd hx hy => ?_⟩
            have hnm : (f.name ≠ "_") := by have := hn f (by simp); simpa using this
            cases hx with
            | agg hl1 ho1 hc1 =>
              cases hy with
              | agg hl2 ho2 hc2 =>
                obtain ⟨va, ra, rpa⟩ := part_sound (P := P) (w := w) (a1 w) (a2 w) a3 a4 hl1 ho1 hc1
                obtain ⟨vb, rb, rpb⟩ := part_sound (P := P) (w := w) (b1 w) (b2 w) b3 b4 hl2 ho2 hc2
                have e1 := hr w E σ va vb d hd rpa rpb
                have e2 := hr' w E σ vx vy d hd (.agg hl1 ho1 hc1) (.agg hl2 ho2 hc2)
                simp only [Op.eqFields, if_pos hnm, Sem.run_bind, ra, rb, e1, Result.andThen_ok]
                cases r
                · simp
                · simpa using e2
        obtain ⟨r, h, hr⟩ := key fields.toList k hnames (by rw [← hfs]; exact h)
        refine ⟨r, h, fun w E σ vx vy d hd hx hy => ?_⟩
        obtain ⟨d, rfl⟩ : ∃ d', d = d' + 1 := ⟨d - 1, by omega⟩
        cases hx with
        | agg hl1 ho1 hc1 =>
          cases hy with
          | agg hl2 ho2 hc2 =>
            rw [run_equalIn_struct w d t _ _ (by rw [hf]; exact hu) hst, hf]
            exact hr w E σ _ _ d (by omega) (.agg hl1 ho1 hc1) (.agg hl2 ho2 hc2)
    | array _ _ => exact h.elim
    | slice _ => exact h.elim
    | ptr _ => exact h.elim
    | other => exact h.elim
    | none => exact h.elim

theorem intK_sound {op : BinOp} {q : IntKind} {a b : Int} {k : SV → Prop} (h : intK op q a b k) :
    ∃ s, k s ∧ op ≠ .shl ∧ op ≠ .shr ∧ ∀ (w : World) (E : Nat → Prop) (σ : Sg) (t : TypeId), ∃ v, (binOp op t (.int q a) (.int q b)).run P w = .ok v w ∧ Rep w E σ s v := by
  cases op <;> simp only [intK] at h
  case quo => exact ⟨_, h.2, by simp, by simp, fun w E σ t => ⟨_, by simp [binOp, Op.intDiv, h.1], .int⟩⟩
  case rem => exact ⟨_, h.2, by simp, by simp, fun w E σ t => ⟨_, by simp [binOp, Op.intDiv, h.1], .int⟩⟩
  case eql => exact ⟨_, h, by simp, by simp, fun w E σ t => ⟨.bool (decide (a = b)), by simp [binOp, Op.intCmp]; rfl, .bool⟩⟩
  case neq => exact ⟨_, h, by simp, by simp, fun w E σ t => ⟨.bool (decide (¬ a = b)), by simp [binOp, Op.intCmp, bne]; rfl, .bool⟩⟩
  case add => exact ⟨_, h, by simp, by simp, fun w E σ t => ⟨_, by simp [binOp, Op.intArith], .int⟩⟩
  case sub => exact ⟨_, h, by simp, by simp, fun w E σ t => ⟨_, by simp [binOp, Op.intArith], .int⟩⟩
  case mul => exact ⟨_, h, by simp, by simp, fun w E σ t => ⟨_, by simp [binOp, Op.intArith], .int⟩⟩
  case and => exact ⟨_, h, by simp, by simp, fun w E σ t => ⟨_, by simp [binOp, Op.intBits], .int⟩⟩
  case or => exact ⟨_, h, by simp, by simp, fun w E σ t => ⟨_, by simp [binOp, Op.intBits], .int⟩⟩
  case xor => exact ⟨_, h, by simp, by simp, fun w E σ t => ⟨_, by simp [binOp, Op.intBits], .int⟩⟩
  case andNot => exact ⟨_, h, by simp, by simp, fun w E σ t => ⟨_, by simp [binOp, Op.intBits], .int⟩⟩
  case lss => exact ⟨_, h, by simp, by simp, fun w E σ t => ⟨_, by simp [binOp, Op.intCmp], .bool⟩⟩
  case leq => exact ⟨_, h, by simp, by simp, fun w E σ t => ⟨_, by simp [binOp, Op.intCmp], .bool⟩⟩
  case gtr => exact ⟨_, h, by simp, by simp, fun w E σ t => ⟨_, by simp [binOp, Op.intCmp], .bool⟩⟩
  case geq => exact ⟨_, h, by simp, by simp, fun w E σ t => ⟨_, by simp [binOp, Op.intCmp], .bool⟩⟩

theorem strK_sound {op : BinOp} {a b : List UInt8} {k : SV → Prop} (h : strK op a b k) :
    ∃ s, k s ∧ ∀ (w : World) (E : Nat → Prop) (σ : Sg) (t : TypeId), ∃ v, (binOp op t (.string ⟨a.toArray⟩) (.string ⟨b.toArray⟩)).run P w = .ok v w ∧ Rep w E σ s v := by
  have hsz : ∀ l : List UInt8, (⟨l.toArray⟩ : ByteArray).size = l.length := fun l => by simp [ByteArray.size]
  cases op <;> simp only [strK] at h
  case add =>
    refine ⟨_, h.2, fun w E σ t => ⟨.string (⟨a.toArray⟩ ++ ⟨b.toArray⟩), ?_, ?_⟩⟩
    · simp only [binOp]
      exact run_string_add_sum w _ _ (by rw [hsz, hsz]; omega)
    · have : (⟨a.toArray⟩ ++ ⟨b.toArray⟩ : ByteArray) = ⟨(a ++ b).toArray⟩ := by
        apply ByteArray.ext
        simp
      rw [this]; exact .str
  case eql => exact ⟨_, h, fun w E σ t => ⟨_, by simp [binOp, Op.stringOp]; rfl, by first | exact .bool | (rw [show (a == b) = decide (a = b) by rw [Bool.eq_iff_iff]; simp]; exact .bool)⟩⟩
  case neq => exact ⟨_, h, fun w E σ t => ⟨_, by simp [binOp, Op.stringOp]; rfl, by first | exact .bool | (rw [show (a == b) = decide (a = b) by rw [Bool.eq_iff_iff]; simp]; exact .bool)⟩⟩
  case lss => exact ⟨_, h, fun w E σ t => ⟨_, by simp [binOp, Op.stringOp], .bool⟩⟩
  case leq => exact ⟨_, h, fun w E σ t => ⟨_, by simp [binOp, Op.stringOp]; rfl, by first | exact .bool | (rw [show (a == b) = decide (a = b) by rw [Bool.eq_iff_iff]; simp]; exact .bool)⟩⟩
  case gtr => exact ⟨_, h, fun w E σ t => ⟨.bool (!(Op.bytesLess a b || a == b)), by simp [binOp, Op.stringOp], by rw [show (a == b) = decide (a = b) by rw [Bool.eq_iff_iff]; simp]; exact .bool⟩⟩
  case geq => exact ⟨_, h, fun w E σ t => ⟨_, by simp [binOp, Op.stringOp], .bool⟩⟩

theorem boolK_sound {op : BinOp} {a b : SV} {k : SV → Prop} {t : TypeId} (hu : P.underlying t = some .bool) (h : boolK op a b k) :
    ∃ s, k s ∧ ∀ (w : World) (E : Nat → Prop) (σ : Sg) (va vb : Value), Rep w E σ a va → Rep w E σ b vb → ∃ v, (binOp op t va vb).run P w = .ok v w ∧ Rep w E σ s v := by
  cases op <;> simp only [boolK] at h
  case eql =>
    obtain ⟨x, h, hx⟩ := asB_sound h
    obtain ⟨y, h, hy⟩ := asB_sound h
    refine ⟨_, h, fun w E σ va vb ra rb => ⟨.bool (x == y), ?_, .bool⟩⟩
    rw [hx _ _ _ _ ra, hy _ _ _ _ rb]
    simp only [binOp]
    simp [Op.equal, Op.maxDepth, run_equalIn_bool' w 9999 t x y hu]
  case neq =>
    obtain ⟨x, h, hx⟩ := asB_sound h
    obtain ⟨y, h, hy⟩ := asB_sound h
    refine ⟨_, h, fun w E σ va vb ra rb => ⟨.bool (!(x == y)), ?_, .bool⟩⟩
    rw [hx _ _ _ _ ra, hy _ _ _ _ rb]
    simp only [binOp]
    simp [Op.equal, Op.maxDepth, run_equalIn_bool' w 9999 t x y hu]

theorem binK_sound (hT : TabOK P T) {op : BinOp} {t : TypeId} {x y : SV} {k : SV → Prop} (h : binK T op t x y k) :
    ∃ s, k s ∧ ∀ (w : World) (E : Nat → Prop) (σ : Sg) (vx vy : Value) (ox oy : Operand), Rep w E σ x vx → Rep w E σ y vy →
      ∃ v, ((do eqGuard op t ox oy vx vy; binOp op t vx vy) : Sem Value).run P w = .ok v w ∧ Rep w E σ s v := by
  -- a value that is neither a struct nor a nil interface needs no guard
  have plain : ∀ {s : SV}, k s → (∀ (w : World) (E : Nat → Prop) (σ : Sg) (vx : Value), Rep w E σ x vx → (∀ cs, vx ≠ .agg cs) ∧ vx ≠ .nilIface) →
      (∀ (w : World) (E : Nat → Prop) (σ : Sg) (vx vy : Value), Rep w E σ x vx → Rep w E σ y vy → ∃ v, (binOp op t vx vy).run P w = .ok v w ∧ Rep w E σ s v) →
      ∃ s, k s ∧ ∀ (w : World) (E : Nat → Prop) (σ : Sg) (vx vy : Value) (ox oy : Operand), Rep w E σ x vx → Rep w E σ y vy →
        ∃ v, ((do eqGuard op t ox oy vx vy; binOp op t vx vy) : Sem Value).run P w = .ok v w ∧ Rep w E σ s v := by
    intro s hk hn hb
    refine ⟨s, hk, fun w E σ vx vy ox oy rx ry => ?_⟩
    obtain ⟨v, hv, hr⟩ := hb w E σ vx vy rx ry
    exact ⟨v, by simp only [Sem.run_bind, eqGuard_plain (hn w E σ vx rx), Result.andThen_ok]; exact hv, hr⟩
  have tyb : ∀ {R : Prop}, (tyK T t fun te => match te.ti with | .bool => R | _ => False) → P.underlying t = some .bool ∧ R := by
    intro R h
    replace h := tyK_sound hT h
    generalize hti : (teOf P t).ti = ti at h
    cases ti <;> first | exact h.elim | exact ⟨und_bool (ti_of hti (by simp)).1, h⟩
  have ptrs : ∀ {x' : SV}, (tyK T t fun te => match (generalizing := false) te.ti, op with | .ptr _, .eql => k .ff | .ptr _, .neq => k .tt | _, _ => False) → (∀ (w : World) (E : Nat → Prop) (σ : Sg) (vx : Value), Rep w E σ x' vx → ∃ a : Addr, vx = .pointer (some a)) →
      ∃ s, k s ∧ ∀ (w : World) (E : Nat → Prop) (σ : Sg) (vx vy : Value) (ox oy : Operand), Rep w E σ x' vx → Rep w E σ .nilp vy →
        ∃ v, ((do eqGuard op t ox oy vx vy; binOp op t vx vy) : Sem Value).run P w = .ok v w ∧ Rep w E σ s v := by
    intro x' h hx
    replace h := tyK_sound hT h
    generalize hti : (teOf P t).ti = ti at h
    cases ti with
    | ptr e =>
      have hu := und_ptr (ti_of hti (by simp)).1
      have hp : P.underlying t = some (.pointer (P.pointee t)) := by simp [Program.pointee, hu]
      have key : ∀ s, k s → (∀ (w : World) (E : Nat → Prop) (σ : Sg) (a : Addr), ∃ v, (binOp op t (.pointer (some a)) (.pointer none)).run P w = .ok v w ∧ Rep w E σ s v) → ∃ s, k s ∧ ∀ (w : World) (E : Nat → Prop) (σ : Sg) (vx vy : Value) (ox oy : Operand), Rep w E σ x' vx → Rep w E σ .nilp vy →
          ∃ v, ((do eqGuard op t ox oy vx vy; binOp op t vx vy) : Sem Value).run P w = .ok v w ∧ Rep w E σ s v := by
        intro s hk hb
        refine ⟨s, hk, fun w E σ vx vy ox oy rx ry => ?_⟩
        obtain ⟨a, rfl⟩ := hx w E σ vx rx
        cases ry
        obtain ⟨v, hv, hr⟩ := hb w E σ a
        exact ⟨v, by simp only [Sem.run_bind, eqGuard_plain (show (∀ cs, Value.pointer (some a) ≠ .agg cs) ∧ Value.pointer (some a) ≠ .nilIface by simp), Result.andThen_ok]; exact hv, hr⟩
      cases op with
      | eql => exact key .ff h fun w E σ a => ⟨.bool false, by rw [run_eql_pointer_nil w t (some a) hp]; rfl, .ff⟩
      | neq => exact key .tt h fun w E σ a => ⟨.bool true, by rw [run_neq_pointer_nil w t (some a) hp]; rfl, .tt⟩
      | _ => exact h.elim
    | _ => exact h.elim
  cases x with
  | int q a =>
    cases y with
    | int q' b =>
      have np : ∀ (w : World) (E : Nat → Prop) (σ : Sg) (vx : Value), Rep w E σ (.int q a) vx → (∀ cs, vx ≠ .agg cs) ∧ vx ≠ .nilIface := fun w E σ vx r => by cases r; simp
      by_cases h1 : op = .shl
      · subst h1
        exact plain h.2 np fun w E σ vx vy rx ry => by
          cases rx; cases ry
          exact ⟨_, by simp [binOp, Op.shift, Int.not_lt.2 h.1], .int⟩
      · by_cases h2 : op = .shr
        · subst h2
          exact plain h.2 np fun w E σ vx vy rx ry => by
            cases rx; cases ry
            exact ⟨_, by simp [binOp, Op.shift, Int.not_lt.2 h.1], .int⟩
        · replace h : if q = q' then intK op q a b k else False := by
            cases op <;> first | exact absurd rfl h1 | exact absurd rfl h2 | exact h
          split at h
          · rename_i hq
            subst hq
            obtain ⟨s, hk, _, _, hb⟩ := intK_sound (P := P) h
            exact plain hk np fun w E σ vx vy rx ry => by
              cases rx; cases ry
              exact hb w E σ t
          · exact h.elim
    | _ => exact h.elim
  | str a =>
    cases y with
    | str b =>
      obtain ⟨s, hk, hb⟩ := strK_sound (P := P) h
      exact plain hk (fun w E σ vx r => by cases r; simp) fun w E σ vx vy rx ry => by
        cases rx; cases ry
        exact hb w E σ t
    | _ => exact h.elim
  | tt =>
    obtain ⟨hu, h⟩ := tyb h
    obtain ⟨s, hk, hb⟩ := boolK_sound hu h
    exact plain hk (fun w E σ vx r => by cases r; simp) fun w E σ vx vy rx ry => hb w E σ vx vy rx ry
  | ff =>
    obtain ⟨hu, h⟩ := tyb h
    obtain ⟨s, hk, hb⟩ := boolK_sound hu h
    exact plain hk (fun w E σ vx r => by cases r; simp) fun w E σ vx vy rx ry => hb w E σ vx vy rx ry
  | bool b =>
    obtain ⟨hu, h⟩ := tyb h
    obtain ⟨s, hk, hb⟩ := boolK_sound hu h
    exact plain hk (fun w E σ vx r => by cases r; simp) fun w E σ vx vy rx ry => hb w E σ vx vy rx ry
  | agg xs =>
    cases y with
    | agg ys =>
      have guardOK : ∀ {r : Bool → Prop}, eqK T 8 t (.agg xs) (.agg ys) r → P.eqGuardType P.depth t = false := by
        intro r hr
        replace hr := tyK_sound hT (show tyK T t _ from hr)
        generalize hti : (teOf P t).ti = ti at hr
        cases ti with
        | struct fs =>
          obtain ⟨hti', i, _, _, _, _, hfl⟩ := ti_of hti (by simp)
          obtain ⟨fields, hu, _, _⟩ := und_struct hti'
          rw [hfl] at hr
          cases hflat : flatOf P t with
          | false => rw [hflat] at hr; exact hr.elim
          | true =>
            unfold flatOf at hflat
            rw [hu] at hflat
            simp only [Bool.and_eq_true, Bool.not_eq_true'] at hflat
            exact hflat.2
        | bool => exact hr.elim
        | _ => exact hr.elim
      cases op <;> simp only [binK] at h
      case eql =>
        obtain ⟨r, hk, he⟩ := eqK_sound hT 8 h
        have hg := guardOK h
        refine ⟨_, hk, fun w E σ vx vy ox oy rx ry => ?_⟩
        have e := he w E σ vx vy 10000 (by omega) rx ry
        cases rx; cases ry
        exact ⟨_, by simp only [Sem.run_bind, run_eqGuard_agg w .eql t ox oy _ _ hg, Result.andThen_ok, run_eql_struct, e], .bool⟩
      case neq =>
        obtain ⟨r, hk, he⟩ := eqK_sound hT 8 h
        have hg := guardOK h
        refine ⟨_, hk, fun w E σ vx vy ox oy rx ry => ?_⟩
        have e := he w E σ vx vy 10000 (by omega) rx ry
        cases rx; cases ry
        exact ⟨_, by simp only [Sem.run_bind, run_eqGuard_agg w .neq t ox oy _ _ hg, Result.andThen_ok, run_neq_struct, e], .bool⟩
    | _ => exact h.elim
  | nilp =>
    cases y with
    | nilp =>
      replace h := tyK_sound hT (show tyK T t _ from h)
      generalize hti : (teOf P t).ti = ti at h
      cases ti with
      | ptr e =>
        have hu := und_ptr (ti_of hti (by simp)).1
        have hp : P.underlying t = some (.pointer (P.pointee t)) := by simp [Program.pointee, hu]
        have np : ∀ (w : World) (E : Nat → Prop) (σ : Sg) (vx : Value), Rep w E σ .nilp vx → (∀ cs, vx ≠ .agg cs) ∧ vx ≠ .nilIface := fun w E σ vx r => by cases r; simp
        cases op with
        | eql =>
          refine plain h np fun w E σ vx vy rx ry => ?_
          cases rx; cases ry
          exact ⟨.bool true, by rw [run_eql_pointer_nil w t none hp]; rfl, .tt⟩
        | neq =>
          refine plain h np fun w E σ vx vy rx ry => ?_
          cases rx; cases ry
          exact ⟨.bool false, by rw [run_neq_pointer_nil w t none hp]; rfl, .ff⟩
        | _ => exact h.elim
      | _ => exact h.elim
    | _ => exact h.elim
  | ptr b o =>
    cases y with
    | nilp => exact ptrs h fun w E σ vx r => by cases r <;> exact ⟨_, rfl⟩
    | _ => exact h.elim
  | ep b i f =>
    cases y with
    | nilp => exact ptrs h fun w E σ vx r => by cases r <;> exact ⟨_, rfl⟩
    | _ => exact h.elim
  | rp z es i f =>
    cases y with
    | nilp => exact ptrs h fun w E σ vx r => by cases r; exact ⟨_, rfl⟩
    | _ => exact h.elim
  | rs z es =>
    cases y with
    | nils =>
      replace h := tyK_sound hT (show tyK T t _ from h)
      generalize hti : (teOf P t).ti = ti at h
      cases ti with
      | slice e =>
        have hu := und_slice (ti_of hti (by simp)).1
        cases op with
        | eql =>
          refine plain h (fun w E σ vx r => by cases r <;> simp) fun w E σ vx vy rx ry => ?_
          cases ry
          cases rx with
          | @rs0 _ _ a c _ => exact ⟨_, Lib.run_eql_slice_nil w t e a 0 c 0 0 hu, .qb fun _ => rfl⟩
          | @rs _ _ _ ad c _ _ _ _ _ _ _ _ _ => exact ⟨_, Lib.run_eql_slice_nil w t e (some ad) _ c 0 0 hu, .qb fun h => by simp at h⟩
        | _ => exact h.elim
      | _ => exact h.elim
    | _ => exact h.elim
  | _ => cases y <;> exact h.elim

theorem unK_sound {op : UnOp} {x : SV} {k : SV → Prop} (h : unK op x k) :
    ∃ s, k s ∧ ∀ (w : World) (E : Nat → Prop) (σ : Sg) (vx : Value), Rep w E σ x vx → ∃ v, (Op.unary op vx).run P w = .ok v w ∧ Rep w E σ s v := by
  cases op <;> cases x <;> simp only [unK] at h
  case neg.int q n => exact ⟨_, h, fun w E σ vx r => by cases r; exact ⟨_, by simp [Op.unary, Op.intArith], .int⟩⟩
  case xor.int q n => exact ⟨_, h, fun w E σ vx r => by cases r; exact ⟨_, by simp [Op.unary, Op.intBits], .int⟩⟩
  case not.tt => exact ⟨_, h, fun w E σ vx r => by cases r; exact ⟨.bool false, by simp [Op.unary], .ff⟩⟩
  case not.ff => exact ⟨_, h, fun w E σ vx r => by cases r; exact ⟨.bool true, by simp [Op.unary], .tt⟩⟩
  case not.bool b => exact ⟨_, h, fun w E σ vx r => by cases r; exact ⟨.bool (!b), by simp [Op.unary], .bool⟩⟩

end
end Go.Sx

/- The symbolic executor is sound: the operations. No statement of the seat is proved here. -/
namespace Go.Sx
section
variable {P : Program} {T : Tab}

def OpRes (P : Program) (m : Sem Next) (w : World) (X : Nat → Prop) (σ : Sg) (h2 : Hp) (s : SV) (ws : Ws) : Prop :=
  DoneS P m w fun v w' => ∃ σ', Rep w' (Ex X σ') σ' s v ∧ Inv w' X σ' (upd ws h2) ∧ Step σ.length w σ w' σ' ∧ σ'.length = σ.length

structure OpOK (P : Program) (F : Fr) (h : Hp) (op : Op) (s : SV) (ws : Ws) (rds : List Nat) : Prop where
  ok : ∀ (w : World) (X : Nat → Prop) (σ : Sg) (h2 : Hp) (ρ : Operand → Value) (d : Option Tmp) (ty : TypeId) (pos : String) (after : Array Edge) (guard : Option (Nat × Bool)),
    Inv w X σ h2 → (∀ x ∈ op.operands.toList, OpnRep w (Ex X σ) σ F ρ x) → (∀ i ∈ rds, h2[i]? = h[i]?) → OpRes P (execOp ρ ⟨d, op, ty, pos, after, guard⟩) w X σ h2 s ws
  sub : ∀ p ∈ ws, p.1 ∈ rds

theorem OpRes.pure {m : Sem Next} {w : World} {X : Nat → Prop} {σ : Sg} {h2 : Hp} {s : SV} {v : Value} (hm : m.run P w = .ok (.value v) w) (hI : Inv w X σ h2) (hr : Rep w (Ex X σ) σ s v) : OpRes P m w X σ h2 s [] := by
  unfold OpRes DoneS
  rw [hm]
  exact ⟨σ, hr, hI, .refl _ _ _, rfl⟩
theorem OpOK.pure {F : Fr} {h : Hp} {op : Op} {s : SV} {rds : List Nat}
    (hx : ∀ (w : World) (E : Nat → Prop) (σ : Sg) (ρ : Operand → Value) (d : Option Tmp) (ty : TypeId) (pos : String) (after : Array Edge) (guard : Option (Nat × Bool)),
      (∀ x ∈ op.operands.toList, OpnRep w E σ F ρ x) → ∃ v, (execOp ρ ⟨d, op, ty, pos, after, guard⟩).run P w = .ok (.value v) w ∧ Rep w E σ s v) : OpOK P F h op s [] rds :=
  ⟨fun w X σ h2 ρ d ty pos after guard hI ho _ => by
    obtain ⟨v, hv, hr⟩ := hx w (Ex X σ) σ ρ d ty pos after guard ho
    exact .pure hv hI hr, by simp⟩

/-! ### zero values -/
theorem rep_ofV' {w : World} {E : Nat → Prop} {σ : Sg} (v : Value) : Rep w E σ (ofV v) v := by
  unfold ofV
  split
  · exact .int
  · exact .tt
  · exact .ff
  · exact rep_str _
  · exact .nilp
  · exact .nils
  · exact .any
theorem zeroK_sound {i : TypeInfo} {k : List SV → Prop} (h : zeroK (zeroOf i) k) :
    k (zeroOf i) ∧ ∃ z, i.zero = some z ∧ zeroOf i = z.cells.toList.map ofV ∧ (∀ v ∈ z.cells.toList, v.oneCell' = true) ∧ z.cells.size = i.size := by
  have hk : k (zeroOf i) ∧ zeroOf i ≠ [.bot] := by
    unfold zeroK at h
    split at h
    · rename_i he; rw [he]; exact ⟨h, by simp⟩
    · rename_i x xs he
      split at h <;> first | exact h.elim | (rw [he]; exact ⟨h, by simp⟩)
  refine ⟨hk.1, ?_⟩
  have hn := hk.2
  cases hz : i.zero with
  | none => exact absurd (by simp [zeroOf, hz]) hn
  | some z =>
    cases hall : (z.cells.toList.all (·.oneCell') && z.cells.size == i.size) with
    | false => exact absurd (by simp only [zeroOf, hz, hall]; rfl) hn
    | true =>
      have h2 := hall
      simp only [Bool.and_eq_true, List.all_eq_true, beq_iff_eq] at h2
      exact ⟨z, rfl, by simp only [zeroOf, hz, hall, if_true], h2.1, h2.2⟩
theorem zero_rep {w : World} {E : Nat → Prop} {σ : Sg} {z : Value} (hone : ∀ v ∈ z.cells.toList, v.oneCell' = true) :
    (z.cells.toList.map ofV).length = z.cells.size ∧ ∀ (i : Nat) (s : SV) (v : Value), (z.cells.toList.map ofV)[i]? = some s → z.cells[i]? = some v → Rep w E σ s v ∧ v.oneCell' = true := by
  refine ⟨by simp, fun i s v hs hv => ?_⟩
  rw [List.getElem?_map, Array.getElem?_toList, hv] at hs
  simp at hs
  subst hs
  exact ⟨rep_ofV' v, hone v (by simpa using Array.mem_of_getElem? hv)⟩

/-! ### a block is laid -/
theorem upd_one (h : Hp) (i : Nat) (b : Blk) : upd [(i, b)] h = h.set i b := rfl

theorem new_fix {w : World} {X : Nat → Prop} {σ : Sg} {h2 : Hp} (hI : Inv w X σ h2) {nid : Nat} (hf : h2[nid]? = some .fresh) {t : TypeId} {cs : List SV} {vs : Array Value}
    (hl : cs.length = vs.size) (hc : ∀ (i : Nat) (s : SV) (v : Value), cs[i]? = some s → vs[i]? = some v → Rep w (Ex X σ) σ s v ∧ v.oneCell' = true) :
    ∃ σ', Rep (w.alloc (.cells vs t)) (Ex X σ') σ' (.ptr nid 0) (.pointer (some ⟨w.heap.size, 0, none⟩)) ∧ Inv (w.alloc (.cells vs t)) X σ' (upd [(nid, .fix t cs)] h2) ∧ Step σ.length w σ (w.alloc (.cells vs t)) σ' ∧ σ'.length = σ.length := by
  have hS := alloc_step (w' := w.alloc (.cells vs t)) hI hf (e := .fix w.heap.size) rfl rfl rfl rfl rfl
  have hσ := fresh_of hI hf
  have hlt : nid < σ.length := (List.getElem?_eq_some_iff.1 hσ).1
  refine ⟨σ.set nid (.fix w.heap.size), .ptr (by simp [hlt]), ?_, hS, by simp⟩
  rw [upd_one]
  refine alloc_inv (w' := w.alloc (.cells vs t)) hI hf (e := .fix w.heap.size) (b := .fix t cs) rfl rfl rfl rfl rfl ⟨vs, heap_alloc_new w _, hl, fun i s v hs hv => ⟨(hc i s v hs hv).1.step hS (Nat.le_refl _), (hc i s v hs hv).2⟩⟩

theorem new_row {w : World} {X : Nat → Prop} {σ : Sg} {h2 : Hp} (hI : Inv w X σ h2) {nid : Nat} (hf : h2[nid]? = some .fresh) {t : TypeId} {sz cap : Nat} {es : List (List SV)} {vs : Array Value}
    (hcap : es.length ≤ cap) (hmax : cap ≤ maxLen) (hl : vs.size = cap * sz)
    (hc : ∀ (i : Nat) (e : List SV), es[i]? = some e → e.length = sz ∧ ∀ (j : Nat) (s : SV), e[j]? = some s → ∃ v, vs[i * sz + j]? = some v ∧ Rep w (Ex X σ) [] s v ∧ v.oneCell' = true) :
    ∃ σ', Rep (w.alloc (.cells vs t)) (Ex X σ') σ' (.sl nid) (.slice (some ⟨w.heap.size, 0, none⟩) es.length cap) ∧ Inv (w.alloc (.cells vs t)) X σ' (upd [(nid, .row t sz es)] h2) ∧ Step σ.length w σ (w.alloc (.cells vs t)) σ' ∧ σ'.length = σ.length := by
  have hS := alloc_step (w' := w.alloc (.cells vs t)) hI hf (e := .row w.heap.size sz es.length cap) rfl rfl rfl rfl rfl
  have hσ := fresh_of hI hf
  have hlt : nid < σ.length := (List.getElem?_eq_some_iff.1 hσ).1
  refine ⟨σ.set nid (.row w.heap.size sz es.length cap), .sl (sz := sz) (by simp [hlt]), ?_, hS, by simp⟩
  rw [upd_one]
  refine alloc_inv (w' := w.alloc (.cells vs t)) hI hf (e := .row w.heap.size sz es.length cap) (b := .row t sz es) rfl rfl rfl rfl rfl ⟨rfl, rfl, hcap, hmax, vs, .of (heap_alloc_new w _), hl, fun i e he => ⟨(hc i e he).1, fun j s hs => ?_⟩⟩
  obtain ⟨v, a, b, c⟩ := (hc i e he).2 j s hs
  exact ⟨v, a, b.step0 hS, c⟩

/-! ### what 'fill' makes -/
theorem fill_one (cells : Array Value) (off : Nat) (v : Value) (hle : off + v.cells.size ≤ cells.size) :
    (v.cells.zipIdx.foldl (fun cs (x : Value × Nat) => cs.setIfInBounds (off + x.2) x.1) cells).size = cells.size ∧
    ∀ k, (v.cells.zipIdx.foldl (fun cs (x : Value × Nat) => cs.setIfInBounds (off + x.2) x.1) cells)[k]? = if off ≤ k ∧ k < off + v.cells.size then v.cells[k - off]? else cells[k]? := by
  have h := Go.Great.foldl_set off v.cells.toList 0 cells
  rw [← Array.foldl_toList, Array.toList_zipIdx]
  refine ⟨h.1, fun k => ?_⟩
  rw [h.2 k]
  simp only [Nat.add_zero, Array.length_toList, Array.getElem?_toList]
  by_cases hk : off ≤ k ∧ k < off + v.cells.size
  · rw [if_pos ⟨hk.1, hk.2, by omega⟩, if_pos hk]
  · rw [if_neg (fun h => hk ⟨h.1, h.2.1⟩), if_neg hk]
theorem put_get {α : Type} (cs : List α) (off : Nat) (c : List α) (hle : off + c.length ≤ cs.length) (k : Nat) :
    (cs.take off ++ (c ++ cs.drop (off + c.length)))[k]? = if off ≤ k ∧ k < off + c.length then c[k - off]? else cs[k]? := by
  have ht : (cs.take off).length = off := by simp; omega
  by_cases h1 : k < off
  · rw [List.getElem?_append_left (by omega), if_neg (by omega), List.getElem?_take, if_pos h1]
  · rw [List.getElem?_append_right (by omega), ht]
    by_cases h2 : k < off + c.length
    · rw [List.getElem?_append_left (by omega), if_pos ⟨by omega, h2⟩]
    · rw [List.getElem?_append_right (by omega), if_neg (by omega), List.getElem?_drop]
      congr 1; omega
theorem put_len {α : Type} (cs : List α) (off : Nat) (c : List α) (hle : off + c.length ≤ cs.length) : (cs.take off ++ (c ++ cs.drop (off + c.length))).length = cs.length := by
  simp; omega

theorem buildK_sound {F : Fr} {fs : List (Nat × TypeId × Nat)} (ps : List (Nat × Operand)) : ∀ {cs : List SV} {k : List SV → Prop}, buildK F fs ps cs k →
    ∃ cs', k cs' ∧ ∀ (w : World) (E : Nat → Prop) (σ : Sg) (ρ : Operand → Value) (vs : Array Value), (∀ p ∈ ps, OpnRep w E σ F ρ p.2) →
      (cs.length = vs.size ∧ ∀ (i : Nat) (s : SV) (v : Value), cs[i]? = some s → vs[i]? = some v → Rep w E σ s v ∧ v.oneCell' = true) →
      ∃ vs', Instr.fill (fun i => (fs[i]?).map fun q => (q.1, q.2.2)) vs (ps.map fun p => (p.1, ρ p.2)) = some vs' ∧
        cs'.length = vs'.size ∧ ∀ (i : Nat) (s : SV) (v : Value), cs'[i]? = some s → vs'[i]? = some v → Rep w E σ s v ∧ v.oneCell' = true := by
  induction ps with
  | nil => intro cs k h; exact ⟨cs, h, fun w E σ ρ vs _ hc => ⟨vs, rfl, hc.1, hc.2⟩⟩
  | cons p ps ih =>
    intro cs k h
    obtain ⟨q, hq, h⟩ := nthK_sound (show nthK fs p.1 _ from h)
    obtain ⟨s, h, hs⟩ := evK_sound h
    -- the cells of s
    have hcells : ∃ c : List SV, (eqNK c.length q.2.2 (putK cs q.1 c fun cs' => buildK F fs ps cs' k)) ∧
        ∀ (w : World) (E : Nat → Prop) (σ : Sg) (v : Value), Rep w E σ s v → c.length = v.cells.size ∧ ∀ (i : Nat) (s : SV) (u : Value), c[i]? = some s → v.cells[i]? = some u → Rep w E σ s u ∧ u.oneCell' = true := by
      revert h
      generalize hG : (fun c : List SV => eqNK c.length q.2.2 (putK cs q.1 c fun cs' => buildK F fs ps cs' k)) = G
      intro h
      replace h : cellsK s G := by rw [← hG]; exact h
      have : ∃ c, G c ∧ ∀ (w : World) (E : Nat → Prop) (σ : Sg) (v : Value) (G' : List SV → Prop), G' c → Rep w E σ s v → cellsK s G' := by
        cases s <;> simp only [cellsK] at h ⊢ <;> first | exact h.elim | exact ⟨_, h, fun _ _ _ _ _ h' _ => h'⟩
      obtain ⟨c, hGc, hc⟩ := this
      refine ⟨c, by rw [← hG] at hGc; exact hGc, fun w E σ v hr => ?_⟩
      obtain ⟨c', hc', hl, hcr⟩ := oneCell_of_cellsK hr (hc w E σ v (· = c) rfl hr)
      subst hc'
      exact ⟨hl, hcr⟩
    obtain ⟨c, h, hc⟩ := hcells
    obtain ⟨hlen, h⟩ := eqNK_sound h
    obtain ⟨hle, h⟩ := putK_sound h
    obtain ⟨cs', hk, hih⟩ := ih h
    refine ⟨cs', hk, fun w E σ ρ vs ho hv => ?_⟩
    have hrep := hs w E σ ρ (ho p (by simp))
    obtain ⟨hcl, hcr⟩ := hc w E σ _ hrep
    have hf := fill_one vs q.1 (ρ p.2) (by rw [← hcl, ← hv.1]; exact hle)
    obtain ⟨vs', hfill, r1, r2⟩ := hih w E σ ρ ((ρ p.2).cells.zipIdx.foldl (fun cs (x : Value × Nat) => cs.setIfInBounds (q.1 + x.2) x.1) vs) (fun p' hp' => ho p' (by simp [hp']))
      ⟨by rw [hf.1, put_len _ _ _ hle, hv.1], fun i s v hs' hv' => by
        rw [put_get _ _ _ hle] at hs'
        rw [hf.2, ← hcl] at hv'
        split at hs'
        · rename_i hin
          rw [if_pos hin] at hv'
          exact hcr _ s v hs' hv'
        · rename_i hin
          rw [if_neg hin] at hv'
          exact hv.2 i s v hs' hv'⟩
    refine ⟨vs', ?_, r1, r2⟩
    simp only [List.map_cons, Instr.fill, hq, Option.map_some]
    rw [if_neg (by rw [← hcl, hlen, ← hv.1]; rw [hlen] at hle; simp; omega)]
    exact hfill

/-- The cells of a value, whatever it stands for. -/
theorem cellsK_all {s : SV} {G : List SV → Prop} (h : cellsK s G) : ∃ c : List SV, G c ∧
    ∀ (w : World) (E : Nat → Prop) (σ : Sg) (v : Value), Rep w E σ s v → c.length = v.cells.size ∧ ∀ (i : Nat) (s : SV) (u : Value), c[i]? = some s → v.cells[i]? = some u → Rep w E σ s u ∧ u.oneCell' = true := by
  have : ∃ c, G c ∧ ∀ (w : World) (E : Nat → Prop) (σ : Sg) (v : Value) (G' : List SV → Prop), G' c → Rep w E σ s v → cellsK s G' := by
    cases s <;> simp only [cellsK] at h ⊢ <;> first | exact h.elim | exact ⟨_, h, fun _ _ _ _ _ h' _ => h'⟩
  obtain ⟨c, hGc, hc⟩ := this
  refine ⟨c, hGc, fun w E σ v hr => ?_⟩
  obtain ⟨c', hc', hl, hcr⟩ := oneCell_of_cellsK hr (hc w E σ v (· = c) rfl hr)
  subst hc'
  exact ⟨hl, hcr⟩

def RowOK (w : World) (E : Nat → Prop) (sz : Nat) (es : List (List SV)) (vs : Array Value) : Prop :=
  ∀ (i : Nat) (e : List SV), es[i]? = some e → e.length = sz ∧ ∀ (j : Nat) (s : SV), e[j]? = some s → ∃ v, vs[i * sz + j]? = some v ∧ Rep w E [] s v ∧ v.oneCell' = true

theorem elem_range {i k sz n : Nat} (h : k < i) (hi : i < n) : (k + 1) * sz ≤ i * sz ∧ (i + 1) * sz ≤ n * sz :=
  ⟨Nat.mul_le_mul_right _ h, Nat.mul_le_mul_right _ hi⟩

theorem elemsK_sound {F : Fr} {sz : Nat} (ps : List (Nat × Operand)) : ∀ {es : List (List SV)} {k : List (List SV) → Prop}, elemsK F sz ps es k →
    ∃ es', k es' ∧ es'.length = es.length ∧ ∀ (w : World) (E : Nat → Prop) (σ : Sg) (ρ : Operand → Value) (vs : Array Value), (∀ p ∈ ps, OpnRep w E σ F ρ p.2) →
      vs.size = es.length * sz → RowOK w E sz es vs →
      ∃ vs', Instr.fill (fun i => some (i * sz, sz)) vs (ps.map fun p => (p.1, ρ p.2)) = some vs' ∧ vs'.size = es'.length * sz ∧ RowOK w E sz es' vs' := by
  induction ps with
  | nil => intro es k h; exact ⟨es, h, rfl, fun w E σ ρ vs _ hs hc => ⟨vs, rfl, hs, hc⟩⟩
  | cons p ps ih =>
    intro es k h
    obtain ⟨s, h, hs⟩ := evK_sound (show evK F p.2 _ from h)
    obtain ⟨c, h, hc⟩ := cellsK_all h
    obtain ⟨hlen, h⟩ := eqNK_sound h
    obtain ⟨h, hpure⟩ := puresK_sound h
    obtain ⟨hle, h⟩ := setK_sound h
    obtain ⟨es', hk, hl', hih⟩ := ih h
    refine ⟨es', hk, by rw [hl']; simp, fun w E σ ρ vs ho hvs hrow => ?_⟩
    have hrep := hs w E σ ρ (ho p (by simp))
    obtain ⟨hcl, hcr⟩ := hc w E σ _ hrep
    have hroom : p.1 * sz + sz ≤ es.length * sz := by rw [← Nat.succ_mul]; exact Nat.mul_le_mul_right _ hle
    have hf := fill_one vs (p.1 * sz) (ρ p.2) (by rw [← hcl, hlen, hvs]; exact hroom)
    obtain ⟨vs', hfill, r1, r2⟩ := hih w E σ ρ ((ρ p.2).cells.zipIdx.foldl (fun cs (x : Value × Nat) => cs.setIfInBounds (p.1 * sz + x.2) x.1) vs) (fun p' hp' => ho p' (by simp [hp']))
      (by rw [hf.1, hvs]; simp) (fun i e he => by
        rw [List.getElem?_set] at he
        by_cases hi : p.1 = i
        · subst hi
          rw [if_pos rfl, if_pos hle] at he
          simp at he; subst he
          refine ⟨hlen, fun j s' hs' => ?_⟩
          have hj : j < c.length := (List.getElem?_eq_some_iff.1 hs').1
          refine ⟨(ρ p.2).cells[j]'(by omega), ?_, ?_⟩
          · rw [hf.2, if_pos ⟨by omega, by omega⟩, show p.1 * sz + j - p.1 * sz = j by omega]
            exact Array.getElem?_eq_getElem (by omega)
          · have := hcr j s' _ hs' (Array.getElem?_eq_getElem (by omega))
            exact ⟨hpure s' (List.mem_of_getElem? hs') w E σ [] _ this.1, this.2⟩
        · rw [if_neg hi] at he
          obtain ⟨h1, h2⟩ := hrow i e he
          refine ⟨h1, fun j s' hs' => ?_⟩
          obtain ⟨v, hv, hv2⟩ := h2 j s' hs'
          refine ⟨v, ?_, hv2⟩
          have hj : j < sz := by rw [← h1]; exact (List.getElem?_eq_some_iff.1 hs').1
          rw [hf.2, if_neg, hv]
          rw [← hcl, hlen]
          rcases Nat.lt_or_ge i p.1 with hlt | hge
          · have := Nat.mul_le_mul_right sz (show i + 1 ≤ p.1 from hlt)
            rw [Nat.succ_mul] at this; omega
          · have := Nat.mul_le_mul_right sz (show p.1 + 1 ≤ i by omega)
            rw [Nat.succ_mul] at this; omega)
    refine ⟨vs', ?_, r1, r2⟩
    simp only [List.map_cons, Instr.fill]
    rw [if_neg (by rw [← hcl, hlen, hvs]; simp; omega)]
    exact hfill
end
end Go.Sx
