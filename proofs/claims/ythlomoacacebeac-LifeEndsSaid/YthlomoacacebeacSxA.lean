/- The symbolic values of this seat's proofs, what they say of memory, and how that is kept. No statement of the seat is proved here. -/
import Derived.WalkKit
import Derived.Deep.LoopGhost
import Derived.Maps.AppendAt
namespace Go.Sx

inductive SV where
  | bot | any | undef
  | int (k : IntKind) (n : Int)
  | tt | ff | bool (b : Bool) | qb (p : Prop)
  | str (s : List UInt8)
  | agg (cs : List SV)
  | tup (vs : List SV)
  | nilp
  | ptr (b off : Nat)
  | ep (b i f : Nat)
  | nils
  | sl (b : Nat)
  | rs (sz : Nat) (es : List (List SV))
  | rp (sz : Nat) (es : List (List SV)) (i f : Nat)
  | fn (f : FuncId) (caps : List SV)
  deriving Inhabited

inductive Blk where
  | fresh | dead
  | fix (T : TypeId) (cs : List SV)
  | row (T : TypeId) (sz : Nat) (es : List (List SV))
  deriving Inhabited

abbrev Fr := List SV
abbrev Hp := List Blk

/-- Where a block of the symbolic heap lies. -/
inductive Ent where
  | fresh | dead
  | fix (g : Nat)
  | row (g sz n cap : Nat)
  | rownil
  deriving Inhabited

def Ent.blk : Ent → Option Nat
  | .fix g => some g
  | .row g _ _ _ => some g
  | _ => none

abbrev Sg := List Ent

def Owned (σ : Sg) (g : Nat) : Prop := ∃ (i : Nat) (e : Ent), σ[i]? = some e ∧ e.blk = some g
def Ex (X : Nat → Prop) (σ : Sg) (g : Nat) : Prop := X g ∨ Owned σ g

inductive Rep (w : World) (E : Nat → Prop) : Sg → SV → Value → Prop where
  | any {σ : Sg} {v : Value} : Rep w E σ .any v
  | undef {σ : Sg} : Rep w E σ .undef Go.undef
  | int {σ : Sg} {k : IntKind} {n : Int} : Rep w E σ (.int k n) (.int k n)
  | tt {σ : Sg} : Rep w E σ .tt (.bool true)
  | ff {σ : Sg} : Rep w E σ .ff (.bool false)
  | bool {σ : Sg} {b : Bool} : Rep w E σ (.bool b) (.bool b)
  | qb {σ : Sg} {p : Prop} {b : Bool} (h : b = true → p) : Rep w E σ (.qb p) (.bool b)
  | str {σ : Sg} {s : List UInt8} : Rep w E σ (.str s) (.string ⟨s.toArray⟩)
  | agg {σ : Sg} {cs : List SV} {vs : Array Value} (hl : cs.length = vs.size) (h1 : ∀ (i : Nat) (v : Value), vs[i]? = some v → v.oneCell' = true)
      (h : ∀ (i : Nat) (s : SV) (v : Value), cs[i]? = some s → vs[i]? = some v → Rep w E σ s v) : Rep w E σ (.agg cs) (.agg vs)
  | tup {σ : Sg} {cs : List SV} {vs : Array Value} (hl : cs.length = vs.size)
      (h : ∀ (i : Nat) (s : SV) (v : Value), cs[i]? = some s → vs[i]? = some v → Rep w E σ s v) : Rep w E σ (.tup cs) (.tuple vs)
  | nilp {σ : Sg} : Rep w E σ .nilp (.pointer none)
  | nils {σ : Sg} : Rep w E σ .nils (.slice none 0 0)
  | ptr {σ : Sg} {b g off : Nat} (h : σ[b]? = some (.fix g)) : Rep w E σ (.ptr b off) (.pointer (some ⟨g, off, none⟩))
  | ptrD {σ : Sg} {b off g : Nat} (h : σ[b]? = some .dead) : Rep w E σ (.ptr b off) (.pointer (some ⟨g, off, none⟩))
  | ep {σ : Sg} {b g sz n cap i f : Nat} (h : σ[b]? = some (.row g sz n cap)) : Rep w E σ (.ep b i f) (.pointer (some ⟨g, i * sz + f, none⟩))
  | epD {σ : Sg} {b i f g o : Nat} (h : σ[b]? = some .dead) : Rep w E σ (.ep b i f) (.pointer (some ⟨g, o, none⟩))
  | sl {σ : Sg} {b g sz n cap : Nat} (h : σ[b]? = some (.row g sz n cap)) : Rep w E σ (.sl b) (.slice (some ⟨g, 0, none⟩) n cap)
  | slN {σ : Sg} {b : Nat} (h : σ[b]? = some .rownil) : Rep w E σ (.sl b) (.slice none 0 0)
  | slD {σ : Sg} {b n c : Nat} {a : Option Addr} (h : σ[b]? = some .dead) : Rep w E σ (.sl b) (.slice a n c)
  | rs0 {σ : Sg} {sz : Nat} {a : Option Addr} {c : Nat} (hc : c ≤ maxLen) : Rep w E σ (.rs sz []) (.slice a 0 c)
  | rs {σ : Sg} {sz : Nat} {es : List (List SV)} {ad : Addr} {c : Nat} {val : Nat → Nat → Value} (hc : es.length ≤ c) (hm : c ≤ maxLen) (hE : ¬ E ad.block) (hlt : ad.block < w.heap.size)
      (hlen : ∀ (i : Nat) (e : List SV), es[i]? = some e → e.length = sz)
      (hcell : ∀ (i : Nat) (e : List SV) (j : Nat) (s : SV), es[i]? = some e → e[j]? = some s → w.cell? (ad.add (i * sz + j)) = some (val i j))
      (hone : ∀ (i : Nat) (e : List SV) (j : Nat) (s : SV), es[i]? = some e → e[j]? = some s → (val i j).oneCell' = true)
      (hrep : ∀ (i : Nat) (e : List SV) (j : Nat) (s : SV), es[i]? = some e → e[j]? = some s → Rep w E [] s (val i j)) : Rep w E σ (.rs sz es) (.slice (some ad) es.length c)
  | rp {σ : Sg} {sz : Nat} {es : List (List SV)} {ad : Addr} {i f : Nat} {val : Nat → Nat → Value} (hE : ¬ E ad.block) (hlt : ad.block < w.heap.size)
      (hlen : ∀ (i : Nat) (e : List SV), es[i]? = some e → e.length = sz)
      (hcell : ∀ (i : Nat) (e : List SV) (j : Nat) (s : SV), es[i]? = some e → e[j]? = some s → w.cell? (ad.add (i * sz + j)) = some (val i j))
      (hone : ∀ (i : Nat) (e : List SV) (j : Nat) (s : SV), es[i]? = some e → e[j]? = some s → (val i j).oneCell' = true)
      (hrep : ∀ (i : Nat) (e : List SV) (j : Nat) (s : SV), es[i]? = some e → e[j]? = some s → Rep w E [] s (val i j)) : Rep w E σ (.rp sz es i f) (.pointer (some (ad.add (i * sz + f))))
  | fn {σ : Sg} {f : FuncId} {cs : List SV} {vs : Array Value} (hl : cs.length = vs.size)
      (h : ∀ (i : Nat) (s : SV) (v : Value), cs[i]? = some s → vs[i]? = some v → Rep w E σ s v) : Rep w E σ (.fn f cs) (.func (.func f) #[] vs)

theorem add_block (a : Addr) (n : Nat) : (a.add n).block = a.block := by unfold Addr.add; split <;> rfl
theorem add_add (a : Addr) (i j : Nat) : (a.add i).add j = a.add (i + j) := by
  unfold Addr.add
  by_cases hi : i = 0 <;> by_cases hj : j = 0 <;> simp [hi, hj, Nat.add_assoc]

theorem Rep.mono {w w' : World} {E E' : Nat → Prop} {σ : Sg} {s : SV} {v : Value} (h : Rep w E σ s v) :
    ∀ σ' : Sg, (∀ g, g < w.heap.size → ¬ E g → w'.heap[g]? = w.heap[g]?) → w.heap.size ≤ w'.heap.size → (∀ g, g < w.heap.size → ¬ E g → ¬ E' g) →
    (∀ (i : Nat) (e : Ent), σ[i]? = some e → e ≠ .fresh → σ'[i]? = some e ∨ σ'[i]? = some .dead) → Rep w' E' σ' s v := by
  induction h with
  | any => intros; exact .any
  | undef => intros; exact .undef
  | int => intros; exact .int
  | tt => intros; exact .tt
  | ff => intros; exact .ff
  | bool => intros; exact .bool
  | qb h => intros; exact .qb h
  | str => intros; exact .str
  | agg hl h1 h ih => intro σ' hw hs hE hσ; exact .agg hl h1 fun i s v hs' hv => ih i s v hs' hv σ' hw hs hE hσ
  | tup hl h ih => intro σ' hw hs hE hσ; exact .tup hl fun i s v hs' hv => ih i s v hs' hv σ' hw hs hE hσ
  | nilp => intros; exact .nilp
  | nils => intros; exact .nils
  | ptr h => intro σ' _ _ _ hσ; exact (hσ _ _ h (by simp)).elim (fun h => .ptr h) (fun h => .ptrD h)
  | ptrD h => intro σ' _ _ _ hσ; exact (hσ _ _ h (by simp)).elim (fun h => .ptrD h) (fun h => .ptrD h)
  | ep h => intro σ' _ _ _ hσ; exact (hσ _ _ h (by simp)).elim (fun h => .ep h) (fun h => .epD h)
  | epD h => intro σ' _ _ _ hσ; exact (hσ _ _ h (by simp)).elim (fun h => .epD h) (fun h => .epD h)
  | sl h => intro σ' _ _ _ hσ; exact (hσ _ _ h (by simp)).elim (fun h => .sl h) (fun h => .slD h)
  | slN h => intro σ' _ _ _ hσ; exact (hσ _ _ h (by simp)).elim (fun h => .slN h) (fun h => .slD h)
  | slD h => intro σ' _ _ _ hσ; exact (hσ _ _ h (by simp)).elim (fun h => .slD h) (fun h => .slD h)
  | rs0 hc => intros; exact .rs0 hc
  | rs hc hm hE0 hlt hlen hcell hone hrep ih =>
    intro σ' hw hs hE hσ
    refine .rs hc hm (hE _ hlt hE0) (Nat.lt_of_lt_of_le hlt hs) hlen (fun i e j s he hs' => ?_) hone (fun i e j s he hs' => ih i e j s he hs' [] hw hs hE (by simp))
    rw [← hcell i e j s he hs']
    refine World.cell?_of_block ?_
    rw [add_block]
    exact hw _ hlt hE0
  | rp hE0 hlt hlen hcell hone hrep ih =>
    intro σ' hw hs hE hσ
    refine .rp (hE _ hlt hE0) (Nat.lt_of_lt_of_le hlt hs) hlen (fun i e j s he hs' => ?_) hone (fun i e j s he hs' => ih i e j s he hs' [] hw hs hE (by simp))
    rw [← hcell i e j s he hs']
    refine World.cell?_of_block ?_
    rw [add_block]
    exact hw _ hlt hE0
  | fn hl h ih => intro σ' hw hs hE hσ; exact .fn hl fun i s v hs' hv => ih i s v hs' hv σ' hw hs hE hσ

/-- A row's cells; none of them is frozen (a converted string's row has a mark behind its end). -/
def RowAt (w : World) (g : Nat) (vs : Array Value) (T : TypeId) : Prop := ∃ fr : Nat × Nat, w.heap[g]? = some (.cells vs T fr) ∧ ∀ k, k < vs.size → ¬ (fr.1 ≤ k ∧ k < fr.2)
theorem RowAt.of {w : World} {g : Nat} {vs : Array Value} {T : TypeId} (h : w.heap[g]? = some (.cells vs T (0, 0))) : RowAt w g vs T := ⟨_, h, fun k _ h => absurd h.2 (Nat.not_lt_zero k)⟩
theorem RowAt.same {w w' : World} {g : Nat} {vs : Array Value} {T : TypeId} (h : RowAt w g vs T) (hg : w'.heap[g]? = w.heap[g]?) : RowAt w' g vs T := by
  obtain ⟨fr, h1, h2⟩ := h
  exact ⟨fr, hg.trans h1, h2⟩

/-- What a block holds. -/
def BlkOK (w : World) (E : Nat → Prop) (σ : Sg) : Blk → Ent → Prop
  | .fresh, .fresh => True
  | .dead, .dead => True
  | .fix T cs, .fix g => ∃ vs : Array Value, w.heap[g]? = some (.cells vs T (0, 0)) ∧ cs.length = vs.size ∧
      ∀ (i : Nat) (s : SV) (v : Value), cs[i]? = some s → vs[i]? = some v → Rep w E σ s v ∧ v.oneCell' = true
  | .row T sz es, .row g sz' n cap => sz' = sz ∧ n = es.length ∧ n ≤ cap ∧ cap ≤ maxLen ∧ ∃ vs : Array Value, RowAt w g vs T ∧ vs.size = cap * sz ∧
      ∀ (i : Nat) (e : List SV), es[i]? = some e → e.length = sz ∧ ∀ (j : Nat) (s : SV), e[j]? = some s → ∃ v, vs[i * sz + j]? = some v ∧ Rep w E [] s v ∧ v.oneCell' = true
  | .row _ _ es, .rownil => es = []
  | _, _ => False

structure Inv (w : World) (X : Nat → Prop) (σ : Sg) (h : Hp) : Prop where
  len : σ.length = h.length
  ok : ∀ (i : Nat) (b : Blk) (e : Ent), h[i]? = some b → σ[i]? = some e → BlkOK w (Ex X σ) σ b e
  lt : ∀ (i : Nat) (e : Ent) (g : Nat), σ[i]? = some e → e.blk = some g → g < w.heap.size
  inj : ∀ (i j : Nat) (e e' : Ent) (g : Nat), σ[i]? = some e → σ[j]? = some e' → e.blk = some g → e'.blk = some g → i = j
  dis : ∀ g, X g → ¬ Owned σ g
  xlt : ∀ g, X g → g < w.heap.size

/-- From (w, σ) to (w', σ'): what was not owned is as it was; the first m entries stay or die. -/
structure Step (m : Nat) (w : World) (σ : Sg) (w' : World) (σ' : Sg) : Prop where
  os : w'.os = w.os
  tape : w'.tape = w.tape
  output : w'.output = w.output
  size : w.heap.size ≤ w'.heap.size
  frame : ∀ g, g < w.heap.size → ¬ Owned σ g → w'.heap[g]? = w.heap[g]?
  blks : ∀ g, Owned σ' g → g < w.heap.size → Owned σ g
  ents : ∀ (i : Nat) (e : Ent), i < m → σ[i]? = some e → e ≠ .fresh → σ'[i]? = some e ∨ σ'[i]? = some .dead

theorem Step.refl (m : Nat) (w : World) (σ : Sg) : Step m w σ w σ := ⟨rfl, rfl, rfl, Nat.le_refl _, fun _ _ _ => rfl, fun _ h _ => h, fun _ _ _ h _ => .inl h⟩
theorem Step.trans {m : Nat} {w w' w'' : World} {σ σ' σ'' : Sg} (h : Step m w σ w' σ') (k : Step m w' σ' w'' σ'') : Step m w σ w'' σ'' where
  os := k.os.trans h.os
  tape := k.tape.trans h.tape
  output := k.output.trans h.output
  size := Nat.le_trans h.size k.size
  frame g hg ho := (k.frame g (Nat.lt_of_lt_of_le hg h.size) fun h' => ho (h.blks g h' hg)).trans (h.frame g hg ho)
  blks g ho hg := h.blks g (k.blks g ho (Nat.lt_of_lt_of_le hg h.size)) hg
  ents i e hi he hf := by
    rcases h.ents i e hi he hf with h1 | h1
    · exact k.ents i e hi h1 hf
    · rcases k.ents i _ hi h1 (by simp) with h2 | h2 <;> exact .inr h2
theorem Step.le {m m' : Nat} {w w' : World} {σ σ' : Sg} (h : Step m w σ w' σ') (hm : m' ≤ m) : Step m' w σ w' σ' :=
  ⟨h.os, h.tape, h.output, h.size, h.frame, h.blks, fun i e hi => h.ents i e (Nat.lt_of_lt_of_le hi hm)⟩

/-- Blocks that were there and are nobody's stay nobody's. -/
theorem Step.ex {m : Nat} {w w' : World} {X : Nat → Prop} {σ σ' : Sg} (h : Step m w σ w' σ') (g : Nat) (hg : g < w.heap.size) (hE : ¬ Ex X σ g) : ¬ Ex X σ' g := by
  rintro (hx | ho)
  · exact hE (.inl hx)
  · exact hE (.inr (h.blks g ho hg))

theorem Rep.step {m : Nat} {w w' : World} {X : Nat → Prop} {σ σ' : Sg} {s : SV} {v : Value} (h : Rep w (Ex X σ) σ s v) (k : Step m w σ w' σ') (hm : σ.length ≤ m) : Rep w' (Ex X σ') σ' s v :=
  h.mono σ' (fun g hg hE => k.frame g hg fun ho => hE (.inr ho)) k.size (fun g hg hE => k.ex g hg hE)
    fun i e he hf => k.ents i e (by have := (List.getElem?_eq_some_iff.1 he).1; omega) he hf
theorem Rep.step0 {m : Nat} {w w' : World} {X : Nat → Prop} {σ σ' : Sg} {s : SV} {v : Value} (h : Rep w (Ex X σ) [] s v) (k : Step m w σ w' σ') : Rep w' (Ex X σ') [] s v :=
  h.mono [] (fun g hg hE => k.frame g hg fun ho => hE (.inr ho)) k.size (fun g hg hE => k.ex g hg hE) (by simp)

/-- A frame. -/
def FRep (w : World) (E : Nat → Prop) (σ : Sg) (F : Fr) (a : Array Value) : Prop :=
  F.length = a.size ∧ ∀ (i : Nat) (s : SV) (v : Value), F[i]? = some s → a[i]? = some v → Rep w E σ s v
theorem FRep.step {m : Nat} {w w' : World} {X : Nat → Prop} {σ σ' : Sg} {F : Fr} {a : Array Value} (h : FRep w (Ex X σ) σ F a) (k : Step m w σ w' σ') (hm : σ.length ≤ m) : FRep w' (Ex X σ') σ' F a :=
  ⟨h.1, fun i s v hs hv => (h.2 i s v hs hv).step k hm⟩

/-- A block that is none of those that a step writes. -/
theorem BlkOK.step {m : Nat} {w w' : World} {X : Nat → Prop} {σ σ' : Sg} {b : Blk} {e : Ent} (h : BlkOK w (Ex X σ) σ b e) (k : Step m w σ w' σ') (hm : σ.length ≤ m)
    (hg : ∀ g, e.blk = some g → w'.heap[g]? = w.heap[g]?) : BlkOK w' (Ex X σ') σ' b e := by
  cases b <;> cases e <;> simp only [BlkOK] at h ⊢
  case fix.fix T cs g =>
    obtain ⟨vs, h1, h2, h3⟩ := h
    exact ⟨vs, (hg g rfl).trans h1, h2, fun i s v hs hv => ⟨(h3 i s v hs hv).1.step k hm, (h3 i s v hs hv).2⟩⟩
  case row.row T sz es g sz' n cap =>
    obtain ⟨h1, h2, h3, h4, vs, h5, h6, h7⟩ := h
    refine ⟨h1, h2, h3, h4, vs, h5.same (hg g rfl), h6, fun i e he => ⟨(h7 i e he).1, fun j s hs => ?_⟩⟩
    obtain ⟨v, a, b, c⟩ := (h7 i e he).2 j s hs
    exact ⟨v, a, b.step0 k, c⟩
  all_goals exact h

end Go.Sx
