/- What a function hands back and leaves, told in fewer words. -/
import Derived.Test.YtdommpfnoiemkaaGen
namespace Go.Proofs.Ytdommpfnoiemkaa
open Go.Sx
def SLe (s s' : SV) : Prop := ∀ (w : World) (E : Nat → Prop) (σ : Sg) (v : Value), Rep w E σ s v → Rep w E σ s' v
def BLe (b b' : Blk) : Prop := ∀ (w : World) (E : Nat → Prop) (σ : Sg) (e : Ent), BlkOK w E σ b e → BlkOK w E σ b' e
theorem SLe.refl (s : SV) : SLe s s := fun _ _ _ _ h => h
theorem SLe.nil {z : Nat} : SLe .nils (.rs z []) := fun w E σ v h => by cases h; exact .rs0 (Nat.zero_le _)
theorem SLe.tt : SLe .tt (.bool true) := fun w E σ v h => by cases h; exact .bool
theorem SLe.ff : SLe .ff (.bool false) := fun w E σ v h => by cases h; exact .bool
def SLeL (l l' : List SV) : Prop := l.length = l'.length ∧ ∀ (i : Nat) (s s' : SV), l[i]? = some s → l'[i]? = some s' → SLe s s'
theorem SLeL.nil : SLeL [] [] := ⟨rfl, by simp⟩
theorem SLeL.cons {s s' : SV} {l l' : List SV} (h : SLe s s') (hl : SLeL l l') : SLeL (s :: l) (s' :: l') := ⟨by simp [hl.1], fun i a a' ha ha' => by
  cases i with
  | zero => simp at ha ha'; subst ha; subst ha'; exact h
  | succ i => exact hl.2 i a a' (by simpa using ha) (by simpa using ha')⟩
theorem SLeL.refl (l : List SV) : SLeL l l := ⟨rfl, fun i s s' h h' => by rw [h] at h'; simp at h'; subst h'; exact .refl _⟩
theorem SLeL.app {a a' b b' : List SV} (h : SLeL a a') (k : SLeL b b') : SLeL (a ++ b) (a' ++ b') := by
  refine ⟨by simp [h.1, k.1], fun i s s' hs hs' => ?_⟩
  by_cases hi : i < a.length
  · rw [List.getElem?_append_left hi] at hs
    rw [List.getElem?_append_left (by rw [← h.1]; exact hi)] at hs'
    exact h.2 i s s' hs hs'
  · rw [List.getElem?_append_right (by omega)] at hs
    rw [List.getElem?_append_right (by rw [← h.1]; omega), ← h.1] at hs'
    exact k.2 _ s s' hs hs'
theorem SLe.agg {l l' : List SV} (h : SLeL l l') : SLe (.agg l) (.agg l') := fun w E σ v hr => by
  cases hr with
  | agg hl ho hc =>
    refine .agg (h.1 ▸ hl) ho fun i s v hs hv => ?_
    have hi : i < l.length := by rw [h.1]; exact (List.getElem?_eq_some_iff.1 hs).1
    exact h.2 i _ s (List.getElem?_eq_getElem hi) hs _ _ _ _ (hc i _ v (List.getElem?_eq_getElem hi) hv)
theorem SLe.tup {l l' : List SV} (h : SLeL l l') : SLe (.tup l) (.tup l') := fun w E σ v hr => by
  cases hr with
  | tup hl hc =>
    refine .tup (h.1 ▸ hl) fun i s v hs hv => ?_
    have hi : i < l.length := by rw [h.1]; exact (List.getElem?_eq_some_iff.1 hs).1
    exact h.2 i _ s (List.getElem?_eq_getElem hi) hs _ _ _ _ (hc i _ v (List.getElem?_eq_getElem hi) hv)
theorem SLe.rs {z : Nat} {es es' : List (List SV)} (hl : es.length = es'.length) (h : ∀ (i : Nat) (e e' : List SV), es[i]? = some e → es'[i]? = some e' → SLeL e e') : SLe (.rs z es) (.rs z es') := fun w E σ v hr => by
  have get : ∀ {i : Nat} {e' : List SV}, es'[i]? = some e' → ∃ e, es[i]? = some e ∧ SLeL e e' := fun {i e'} he => by
    have hi : i < es.length := by rw [hl]; exact (List.getElem?_eq_some_iff.1 he).1
    exact ⟨_, List.getElem?_eq_getElem hi, h i _ e' (List.getElem?_eq_getElem hi) he⟩
  have get2 : ∀ {e e' : List SV} {j : Nat} {s : SV}, SLeL e e' → e'[j]? = some s → ∃ s0, e[j]? = some s0 ∧ SLe s0 s := fun {e e' j s} hle hs => by
    have hj : j < e.length := by rw [hle.1]; exact (List.getElem?_eq_some_iff.1 hs).1
    exact ⟨_, List.getElem?_eq_getElem hj, hle.2 j _ s (List.getElem?_eq_getElem hj) hs⟩
  cases hr with
  | rs0 hc =>
    have : es' = [] := List.eq_nil_of_length_eq_zero (by rw [← hl]; rfl)
    subst this; exact .rs0 hc
  | @rs _ _ _ ad c val hc hm hE hlt hlen hcell hone hrep =>
    rw [hl]
    refine .rs (val := val) (hl ▸ hc) hm hE hlt (fun i e he => ?_) (fun i e j s he hs => ?_) (fun i e j s he hs => ?_) (fun i e j s he hs => ?_)
    · obtain ⟨e0, h0, hle⟩ := get he; rw [← hle.1]; exact hlen i e0 h0
    all_goals
      obtain ⟨e0, h0, hle⟩ := get he
      obtain ⟨s0, hs0, hsl⟩ := get2 hle hs
    · exact hcell i e0 j s0 h0 hs0
    · exact hone i e0 j s0 h0 hs0
    · exact hsl _ _ _ _ (hrep i e0 j s0 h0 hs0)
theorem BLe.fix {T : TypeId} {cs cs' : List SV} (h : SLeL cs cs') : BLe (.fix T cs) (.fix T cs') := fun w E σ e hb => by
  cases e <;> simp only [BlkOK] at hb ⊢
  obtain ⟨vs, h1, h2, h3⟩ := hb
  refine ⟨vs, h1, by rw [← h.1]; exact h2, fun i s v hs hv => ?_⟩
  have hi : i < cs.length := by rw [h.1]; exact (List.getElem?_eq_some_iff.1 hs).1
  obtain ⟨a, b⟩ := h3 i _ v (List.getElem?_eq_getElem hi) hv
  exact ⟨h.2 i _ s (List.getElem?_eq_getElem hi) hs _ _ _ _ a, b⟩
theorem BLe.refl (b : Blk) : BLe b b := fun _ _ _ _ h => h
def HLe (h h' : Hp) : Prop := h.length = h'.length ∧ ∀ (i : Nat) (b b' : Blk), h[i]? = some b → h'[i]? = some b' → BLe b b'
theorem HLe.refl (h : Hp) : HLe h h := ⟨rfl, fun i b b' hb hb' => by rw [hb] at hb'; simp at hb'; subst hb'; exact .refl _⟩
theorem HLe.one {b b' : Blk} (h : BLe b b') : HLe [b] [b'] := ⟨rfl, fun i a a' ha ha' => by
  cases i with
  | zero => simp at ha ha'; subst ha; subst ha'; exact h
  | succ i => simp at ha⟩
theorem _root_.Go.Sx.Inv.weak {w : World} {X : Nat → Prop} {σ : Sg} {h h' : Hp} (hI : Inv w X σ h) (hl : HLe h h') : Inv w X σ h' :=
  ⟨hI.len.trans hl.1, fun i b e hb he => by
    have hi : i < h.length := by rw [hl.1]; exact (List.getElem?_eq_some_iff.1 hb).1
    exact hl.2 i _ b (List.getElem?_eq_getElem hi) hb _ _ _ _ (hI.ok i _ e (List.getElem?_eq_getElem hi) he), hI.lt, hI.inj, hI.dis, hI.xlt⟩
theorem _root_.Go.Sx.OSpec.weak {P : Program} {f : FuncId} {args : List SV} {hin : Hp} {R R' : SV → Hp → Prop} (hs : OSpec P f args hin R)
    (hw : ∀ s ho, R s ho → FreeSV s → (∀ b ∈ ho, FreeBlk b) → ∃ s' ho', R' s' ho' ∧ SLe s s' ∧ FreeSV s' ∧ HLe ho ho' ∧ ∀ b ∈ ho', FreeBlk b) : OSpec P f args hin R' :=
  ⟨hs.fin, fun w X σ vs hI hr => (hs.ok w X σ vs hI hr).mono fun v w' ⟨s, ho, σ', hR, hl, hf, hfb, hrep, hI', hS⟩ => by
    obtain ⟨s', ho', hR', hle, hf', hhl, hfb'⟩ := hw s ho hR hf hfb
    exact ⟨s', ho', σ', hR', hhl.1 ▸ hl, hf', hfb', hle _ _ _ _ hrep, hI'.weak hhl, hS⟩⟩
theorem _root_.Go.Sx.PSpec.weak {P : Program} {f : FuncId} {args : List SV} {R R' : SV → Prop} (hs : PSpec P f args R) (hw : ∀ s, R s → ∃ s', R' s' ∧ SLe s s') : PSpec P f args R' :=
  ⟨fun h K hk => ⟨fun w X σ vs hI hr => ((hs.ok h (fun s h' => R s ∧ h' = h) fun s hs => ⟨hs, rfl⟩).ok w X σ vs hI hr).mono fun v w' ⟨s, h', σ', ⟨hR, e⟩, hrep, hI', hS⟩ => by
    subst e
    obtain ⟨s', hR', hto⟩ := hw s hR
    exact ⟨s', _, σ', hk s' hR', hto _ _ _ _ hrep, hI', hS⟩⟩⟩
theorem _root_.Go.Sx.OSpec.pre {P : Program} {f : FuncId} {args : List SV} {hin hin' : Hp} {R : SV → Hp → Prop} (hs : OSpec P f args hin R) (h : HLe hin' hin) (hf : ∀ b ∈ hin', FreeBlk b) : OSpec P f args hin' R :=
  ⟨hf, fun w X σ vs hI hr => (hs.ok w X σ vs (hI.weak h) hr).mono fun v w' ⟨s, ho, σ', a, b, c, d, e, f, g⟩ => ⟨s, ho, σ', a, by rw [b, h.1], c, d, e, f, by rw [h.1]; exact g⟩⟩
def BoolIs (b : Bool) (s : SV) : Prop := s = .bool b ∨ (s = .tt ∧ b = true) ∨ (s = .ff ∧ b = false)
theorem BoolIs.le {b : Bool} {s : SV} (h : BoolIs b s) : SLe s (.bool b) := by
  rcases h with rfl | ⟨rfl, rfl⟩ | ⟨rfl, rfl⟩
  · exact .refl _
  · exact .tt
  · exact .ff
theorem free_bool (b : Bool) : FreeSV (.bool b) := fun w E σ σ' v h => by cases h; exact .bool
/-- A block whose last cell is a Bool, told in one form. -/
theorem _root_.Go.Sx.OSpec.toB {P : Program} {f : FuncId} {args : List SV} {hin : Hp} {ι : Type} {T : TypeId} {p : ι → Prop} {V : ι → SV} {pre : ι → List SV} {b : ι → Bool}
    (hs : OSpec P f args hin fun v ho => ∃ i, p i ∧ v = V i ∧ ∃ c, ho = [.fix T (pre i ++ [c])] ∧ BoolIs (b i) c) : OSpec P f args hin fun v ho => ∃ i, p i ∧ v = V i ∧ ho = [.fix T (pre i ++ [.bool (b i)])] :=
  hs.weak fun s ho ⟨i, hp, e1, c, e2, hc⟩ hf hfb => by
    subst e1; subst e2
    refine ⟨_, _, ⟨i, hp, rfl, rfl⟩, .refl _, hf, .one (.fix ((SLeL.refl _).app (.cons hc.le .nil))), fun x hx => ?_⟩
    simp at hx
    subst hx
    intro s hs
    rcases List.mem_append.1 hs with hs | hs
    · exact (show ∀ s ∈ pre i ++ [c], FreeSV s from hfb (.fix T (pre i ++ [c])) (by simp)) s (by simp [hs])
    · simp at hs; subst hs; exact free_bool _
end Go.Proofs.Ytdommpfnoiemkaa
