/- The symbolic executor is sound: append, conversions. No statement of the seat is proved here. -/
import Derived.Test.YthlomoacacebeacSxJa
import Derived.Laws.Cover1
namespace Go.Sx
section
variable {P : Program} {T : Tab}

theorem size_mk (l : List UInt8) : (⟨l.toArray⟩ : ByteArray).size = l.length := by simp [ByteArray.size]
theorem repl1 {w : World} {E : Nat → Prop} {σ : Sg} {s : SV} {vs : List Value} (h : RepL w E σ [s] vs) : ∃ v, vs = [v] ∧ Rep w E σ s v := by
  obtain ⟨hl, hr⟩ := h
  match vs, hl with
  | [v], _ => exact ⟨v, rfl, hr 0 s v rfl rfl⟩
theorem repl2 {w : World} {E : Nat → Prop} {σ : Sg} {s t : SV} {vs : List Value} (h : RepL w E σ [s, t] vs) : ∃ v u, vs = [v, u] ∧ Rep w E σ s v ∧ Rep w E σ t u := by
  obtain ⟨hl, hr⟩ := h
  match vs, hl with
  | [v, u], _ => exact ⟨v, u, rfl, hr 0 s v rfl rfl, hr 1 t u rfl rfl⟩
theorem repl3 {w : World} {E : Nat → Prop} {σ : Sg} {s t r : SV} {vs : List Value} (h : RepL w E σ [s, t, r] vs) : ∃ v u x, vs = [v, u, x] ∧ Rep w E σ s v ∧ Rep w E σ t u ∧ Rep w E σ r x := by
  obtain ⟨hl, hr⟩ := h
  match vs, hl with
  | [v, u, x], _ => exact ⟨v, u, x, rfl, hr 0 s v rfl rfl, hr 1 t u rfl rfl, hr 2 r x rfl rfl⟩
theorem map_of_list {xs : Array Operand} {ρ : Operand → Value} {l : List Value} (h : xs.toList.map ρ = l) : xs.map ρ = l.toArray := by
  rw [← h, ← Array.toList_map, Array.toArray_toList]

theorem exec_builtin (ρ : Operand → Value) (d : Option Tmp) (b : Builtin) (xs : Array Operand) (ats : Array TypeId) (ty : TypeId) (pos : String) (after : Array Edge) (guard : Option (Nat × Bool)) :
    execOp ρ ⟨d, .call ⟨.builtin b, xs, ats⟩, ty, pos, after, guard⟩ = builtin b ats ty (xs.map fun | .const _ => true | _ => false) (xs.map ρ) := rfl

theorem drew_step {w : World} {X : Nat → Prop} {σ : Sg} {h : Hp} (hI : Inv w X σ h) : Inv w.drew X σ h ∧ Step σ.length w σ w.drew σ := by
  have hS : Step σ.length w σ w.drew σ := ⟨rfl, rfl, rfl, Nat.le_refl _, fun _ _ _ => rfl, fun _ h _ => h, fun _ _ _ h _ => .inl h⟩
  exact ⟨⟨hI.len, fun i b e hb he => (hI.ok i b e hb he).step hS (Nat.le_refl _) fun _ _ => rfl, hI.lt, hI.inj, hI.dis, hI.xlt⟩, hS⟩

/-- A block of one's own is given up. -/
theorem Inv.drop {w : World} {X : Nat → Prop} {σ : Sg} {h : Hp} (hI : Inv w X σ h) (m b : Nat) : Inv w X (σ.set b .dead) (h.set b .dead) ∧ Step m w σ w (σ.set b .dead) := by
  have hget : ∀ (i : Nat) (e : Ent), (σ.set b .dead)[i]? = some e → (i = b ∧ e = .dead) ∨ (i ≠ b ∧ σ[i]? = some e) := by
    intro i e he
    rw [List.getElem?_set] at he
    by_cases hib : b = i
    · rw [if_pos hib] at he
      split at he
      · simp at he; exact .inl ⟨hib.symm, he.symm⟩
      · simp at he
    · rw [if_neg hib] at he; exact .inr ⟨fun e => hib e.symm, he⟩
  have hown : ∀ g, Owned (σ.set b .dead) g → Owned σ g := by
    rintro g ⟨i, e, he, hg⟩
    rcases hget i e he with ⟨_, rfl⟩ | ⟨h1, h2⟩
    · simp [Ent.blk] at hg
    · exact ⟨i, e, h2, hg⟩
  have hS : Step m w σ w (σ.set b .dead) := ⟨rfl, rfl, rfl, Nat.le_refl _, fun _ _ _ => rfl, fun g ho _ => hown g ho, fun i e _ he hf => by
    rw [List.getElem?_set]
    by_cases hib : b = i
    · rw [if_pos hib, if_pos (by rw [hib]; exact (List.getElem?_eq_some_iff.1 he).1)]; exact .inr rfl
    · rw [if_neg hib]; exact .inl he⟩
  have hS' : Step σ.length w σ w (σ.set b .dead) := ⟨hS.os, hS.tape, hS.output, hS.size, hS.frame, hS.blks, fun i e _ he hf => by
    rw [List.getElem?_set]
    by_cases hib : b = i
    · rw [if_pos hib, if_pos (by rw [hib]; exact (List.getElem?_eq_some_iff.1 he).1)]; exact .inr rfl
    · rw [if_neg hib]; exact .inl he⟩
  refine ⟨⟨by simp [hI.len], fun i bl e hb he => ?_, fun i e g he hg => ?_, fun i j e e' g hi hj hg hg' => ?_, fun g hx ho => hI.dis g hx (hown g ho), hI.xlt⟩, hS⟩
  · rcases hget i e he with ⟨rfl, rfl⟩ | ⟨h1, h2⟩
    · rw [List.getElem?_set, if_pos rfl] at hb
      split at hb
      · simp at hb; subst hb; trivial
      · simp at hb
    · rw [List.getElem?_set, if_neg (fun e => h1 e.symm)] at hb
      exact (hI.ok i bl e hb h2).step hS' (Nat.le_refl _) fun _ _ => rfl
  · rcases hget i e he with ⟨_, rfl⟩ | ⟨_, h2⟩
    · simp [Ent.blk] at hg
    · exact hI.lt i e g h2 hg
  · rcases hget i e hi with ⟨_, rfl⟩ | ⟨_, h2⟩
    · simp [Ent.blk] at hg
    · rcases hget j e' hj with ⟨_, rfl⟩ | ⟨_, h3⟩
      · simp [Ent.blk] at hg'
      · exact hI.inj i j e e' g h2 h3 hg hg'

/-- A row is written and goes on under a new number. -/
theorem move_inv {w w' : World} {X : Nat → Prop} {σ : Sg} {h : Hp} (hI : Inv w X σ h) {b nid g : Nat} {e e' : Ent} (hf : h[nid]? = some .fresh) (hb : σ[b]? = some e) (hg : e.blk = some g) (hg' : e'.blk = some g)
    (ho : w'.os = w.os) (ht : w'.tape = w.tape) (hout : w'.output = w.output) (hs : w'.heap.size = w.heap.size) (hw : ∀ k, k ≠ g → w'.heap[k]? = w.heap[k]?) {bl : Blk}
    (hok : Step σ.length w σ w' ((σ.set nid e').set b .dead) → BlkOK w' (Ex X ((σ.set nid e').set b .dead)) ((σ.set nid e').set b .dead) bl e') :
    Inv w' X ((σ.set nid e').set b .dead) ((h.set nid bl).set b .dead) ∧ Step σ.length w σ w' ((σ.set nid e').set b .dead) := by
  have hσf := fresh_of hI hf
  have hnlt : nid < σ.length := (List.getElem?_eq_some_iff.1 hσf).1
  have hblt : b < σ.length := (List.getElem?_eq_some_iff.1 hb).1
  have hne : b ≠ nid := by
    rintro rfl
    rw [hσf] at hb
    simp at hb
    subst hb
    simp [Ent.blk] at hg
  have hget : ∀ (i : Nat) (a : Ent), ((σ.set nid e').set b .dead)[i]? = some a → (i = b ∧ a = .dead) ∨ (i = nid ∧ a = e') ∨ (i ≠ b ∧ i ≠ nid ∧ σ[i]? = some a) := by
    intro i a ha
    rw [List.getElem?_set, List.getElem?_set] at ha
    by_cases hib : b = i
    · rw [if_pos hib] at ha
      split at ha
      · simp at ha; exact .inl ⟨hib.symm, ha.symm⟩
      · simp at ha
    · rw [if_neg hib] at ha
      by_cases hin : nid = i
      · rw [if_pos hin, if_pos hnlt] at ha
        simp at ha
        exact .inr (.inl ⟨hin.symm, ha.symm⟩)
      · rw [if_neg hin] at ha; exact .inr (.inr ⟨fun e => hib e.symm, fun e => hin e.symm, ha⟩)
  have hown : ∀ k, Owned ((σ.set nid e').set b .dead) k → Owned σ k := by
    rintro k ⟨i, a, ha, hk⟩
    rcases hget i a ha with ⟨_, rfl⟩ | ⟨_, rfl⟩ | ⟨_, _, h2⟩
    · simp [Ent.blk] at hk
    · rw [hg'] at hk; simp at hk; subst hk; exact ⟨b, e, hb, hg⟩
    · exact ⟨i, a, h2, hk⟩
  have hS : Step σ.length w σ w' ((σ.set nid e').set b .dead) := by
    refine ⟨ho, ht, hout, by omega, fun k _ hk => hw k fun e1 => hk (e1 ▸ ⟨b, e, hb, hg⟩), fun k hk _ => hown k hk, fun i a hi ha hfr => ?_⟩
    rw [List.getElem?_set, List.getElem?_set]
    by_cases hib : b = i
    · rw [if_pos hib, if_pos (by simp [hblt])]; exact .inr rfl
    · rw [if_neg hib]
      by_cases hin : nid = i
      · subst hin; rw [hσf] at ha; simp at ha; exact absurd ha.symm hfr
      · rw [if_neg hin]; exact .inl ha
  refine ⟨⟨by simp [hI.len], fun i c a hc ha => ?_, fun i a k ha hk => ?_, fun i j a a' k hi hj hk hk' => ?_, fun k hx ho' => hI.dis k hx (hown k ho'), fun k hx => by rw [hs]; exact hI.xlt k hx⟩, hS⟩
  · rw [List.getElem?_set, List.getElem?_set] at hc
    rcases hget i a ha with ⟨rfl, rfl⟩ | ⟨rfl, rfl⟩ | ⟨h1, h2, h3⟩
    · rw [if_pos rfl] at hc
      split at hc
      · simp at hc; subst hc; trivial
      · simp at hc
    · rw [if_neg hne, if_pos rfl, if_pos (by rw [← hI.len]; exact hnlt)] at hc
      simp at hc
      subst hc
      exact hok hS
    · rw [if_neg (fun e => h1 e.symm), if_neg (fun e => h2 e.symm)] at hc
      refine (hI.ok i c a hc h3).step hS (Nat.le_refl _) fun k hk => hw k fun e1 => ?_
      subst e1
      exact h1 (hI.inj i b a e k h3 hb hk hg)
  · rw [hs]
    rcases hget i a ha with ⟨_, rfl⟩ | ⟨_, rfl⟩ | ⟨_, _, h3⟩
    · simp [Ent.blk] at hk
    · rw [hg'] at hk; simp at hk; subst hk; exact hI.lt b e g hb hg
    · exact hI.lt i a k h3 hk
  · rcases hget i a hi with ⟨_, rfl⟩ | ⟨hi1, rfl⟩ | ⟨hib, hin, h3⟩
    · simp [Ent.blk] at hk
    · rcases hget j a' hj with ⟨_, rfl⟩ | ⟨hj1, _⟩ | ⟨hjb, hjn, h4⟩
      · simp [Ent.blk] at hk'
      · omega
      · rw [hg'] at hk; simp at hk; subst hk
        exact absurd (hI.inj j b a' e g h4 hb hk' hg) hjb
    · rcases hget j a' hj with ⟨_, rfl⟩ | ⟨hj1, rfl⟩ | ⟨hjb, hjn, h4⟩
      · simp [Ent.blk] at hk'
      · rw [hg'] at hk'; simp at hk'; subst hk'
        exact absurd (hI.inj i b a e g h3 hb hk hg) hib
      · exact hI.inj i j a a' k h3 h4 hk hk'

/-- A row's cells, as a list. -/
def RowOKL (w : World) (E : Nat → Prop) (sz : Nat) (es : List (List SV)) (vs : List Value) : Prop :=
  ∀ (i : Nat) (e : List SV), es[i]? = some e → e.length = sz ∧ ∀ (j : Nat) (s : SV), e[j]? = some s → ∃ v, vs[i * sz + j]? = some v ∧ Rep w E [] s v ∧ v.oneCell' = true
theorem take_mul_get {z n m : Nat} {news : List Value} {vs : Array Value} {xs : List Value} (h : vs.toList.take ((n + m) * z) = xs ++ news) (k : Nat) (hk : k < (n + m) * z) : vs[k]? = (xs ++ news)[k]? := by
  rw [← h, List.getElem?_take, if_pos hk, Array.getElem?_toList]

theorem append_ok (hT : TabOK P T) {F : Fr} {h : Hp} {nid : Nat} (hf : h[nid]? = some .fresh) {xs : Array Operand} {ats : Array TypeId} {K : Kop} (hk : opK T F h nid (.call ⟨.builtin .append, xs, ats⟩) K) : OpGood P F h (.call ⟨.builtin .append, xs, ats⟩) K := by
  obtain ⟨ss, hk1, hs⟩ := evsK_sound (show evsK F xs.toList _ from hk)
  clear hk
  have hos : ∀ (w : World) (E : Nat → Prop) (σ : Sg) (ρ : Operand → Value), (∀ z ∈ (Op.call ⟨.builtin .append, xs, ats⟩).operands.toList, OpnRep w E σ F ρ z) → RepL w E σ ss (xs.toList.map ρ) := fun w E σ ρ ho => hs w E σ ρ fun y hy => ho y (by simp [Op.operands, Call.operands]; simpa using hy)
  cases hat : ats.toList with
  | nil => rw [hat] at hk1; exact hk1.elim
  | cons t l =>
    cases l with
    | nil => rw [hat] at hk1; exact hk1.elim
    | cons u l =>
      cases l with
      | cons _ _ => rw [hat] at hk1; exact hk1.elim
      | nil =>
        rw [hat] at hk1
        have hats : ats = #[t, u] := by rw [← Array.toArray_toList (xs := ats), hat]
        subst hats
        have hk := tyK_sound hT (show tyK T t _ from hk1)
        clear hk1
        generalize hti : (teOf P t).ti = ti at hk
        cases ti with
        | slice e =>
          replace hk := tyK_sound hT (show tyK T e _ from hk)
          obtain ⟨i, z, hi, hsize, hbytes, hz, hz1, hz3, hzsz, hk⟩ := info_of_zero hk
          obtain ⟨hpos, hk⟩ := leNK_sound hk
          have hut := und_slice (ti_of hti (by simp)).1
          match ss, hk, hos with
          | [], hk, _ => exact hk.elim
          | [_], hk, _ => exact hk.elim
          | _ :: _ :: _ :: _, hk, _ => exact hk.elim
          | [s, x], hk, hos =>
            -- the destination
            obtain ⟨es, kill, rd, hk, hkill, hdst⟩ : ∃ es kill rd, (srcK T h u e (teOf P e).size x fun ys rd' => (es.length + ys.length ≤ 4611686018427387903 ∧ (es.length + ys.length) * (teOf P e).bytes ≤ 140737488355328) ∧
                K (.sl nid) ((nid, .row e (teOf P e).size (es ++ ys)) :: kill) (nid :: (rd ++ rd'))) ∧
                ((s = .nils ∧ es = [] ∧ kill = [] ∧ rd = []) ∨ ∃ b, s = .sl b ∧ kill = [(b, .dead)] ∧ rd = [b] ∧ h[b]? = some (.row e (teOf P e).size es)) ∧ True := by
              cases s with
              | nils => exact ⟨_, _, _, hk, .inl ⟨rfl, rfl, rfl, rfl⟩, trivial⟩
              | sl b =>
                obtain ⟨blk, hb, hk⟩ := nthK_sound (show nthK h b _ from hk)
                cases blk with
                | row t0 q es =>
                  obtain ⟨e1, hk⟩ := eqNK_sound hk
                  obtain ⟨e2, hk2⟩ := eqNK_sound hk
                  subst e1; subst e2
                  exact ⟨_, _, _, hk2, .inr ⟨b, rfl, rfl, rfl, hb⟩, trivial⟩
                | _ => exact hk.elim
              | _ => exact hk.elim
            obtain ⟨ys, rd', ⟨⟨hb1, hb2⟩, hk⟩, ⟨du, hdu, hdi⟩, hsrc⟩ := srcK_sound hT hk
            rw [hsize] at hpos hkill hsrc hk
            rw [hbytes] at hb2
            refine ⟨_, _, _, hk, fun w X σ h2 ρ d ty pos after guard hI ho hrd => ?_, ?_⟩
            · have hf' : h2[nid]? = some .fresh := (hrd nid (by simp)).trans hf
              obtain ⟨v, y, hv, hr, hr'⟩ := repl2 (hos w _ σ ρ ho)
              obtain ⟨news, hok⟩ := hsrc w X σ h2 y hI (fun j hj => hrd j (by simp [hj])) hr'
              unfold OpRes DoneS
              rw [exec_builtin, map_of_list hv, show builtin .append #[t, u] ty (xs.map fun | .const _ => true | _ => false) [v, y].toArray = (do pure (.value (← Builtin.append_ #[t, u] ty #[v, y]))) from rfl]
              -- the new row's cells
              have cells : ∀ (ws : Array Value) (vs0 : List Value), vs0.length = es.length * i.size → RowOKL w (Ex X σ) i.size es vs0 → ws.toList.take ((es.length + ys.length) * i.size) = vs0 ++ news →
                  ∀ (k : Nat) (a : List SV), (es ++ ys)[k]? = some a → a.length = i.size ∧ ∀ (j : Nat) (q : SV), a[j]? = some q → ∃ v, ws[k * i.size + j]? = some v ∧ Rep w (Ex X σ) [] q v ∧ v.oneCell' = true := by
                intro ws vs0 hl0 h0 htk k a ha
                have hkl : k < es.length + ys.length := by
                  have := (List.getElem?_eq_some_iff.1 ha).1; simpa using this
                have hat : ∀ j, j < i.size → ws[k * i.size + j]? = (vs0 ++ news)[k * i.size + j]? := fun j hj => by
                  refine take_mul_get htk _ ?_
                  have := Nat.mul_le_mul_right i.size (show k + 1 ≤ es.length + ys.length from hkl)
                  rw [Nat.succ_mul] at this
                  omega
                rw [List.getElem?_append] at ha
                by_cases hkes : k < es.length
                · rw [if_pos hkes] at ha
                  obtain ⟨h1, h2⟩ := h0 k a ha
                  refine ⟨h1, fun j q hq => ?_⟩
                  obtain ⟨v, h3, h4, h5⟩ := h2 j q hq
                  have hj : j < i.size := by rw [← h1]; exact (List.getElem?_eq_some_iff.1 hq).1
                  refine ⟨v, ?_, h4, h5⟩
                  rw [hat j hj, List.getElem?_append_left (List.getElem?_eq_some_iff.1 h3).1, h3]
                · rw [if_neg hkes] at ha
                  obtain ⟨h1, h2⟩ := hok.row _ a ha
                  refine ⟨h1, fun j q hq => ?_⟩
                  obtain ⟨v, h3, h4, h5⟩ := h2 j q hq
                  have hj : j < i.size := by rw [← h1]; exact (List.getElem?_eq_some_iff.1 hq).1
                  refine ⟨v, ?_, h4, h5⟩
                  have hle : es.length * i.size ≤ k * i.size := Nat.mul_le_mul_right _ (by omega)
                  rw [hat j hj, List.getElem?_append_right (by rw [hl0]; omega), hl0]
                  rw [show k * i.size + j - es.length * i.size = (k - es.length) * i.size + j by rw [Nat.sub_mul]; omega]
                  exact h3
              -- a new row
              have fresh_row : ∀ (vs0 : List Value) (cap : Nat) (cur : Array Value), vs0.length = es.length * i.size → RowOKL w (Ex X σ) i.size es vs0 → es.length + ys.length ≤ cap → cap ≤ maxLen → cur.size = cap * i.size →
                  cur.toList.take ((es.length + ys.length) * i.size) = vs0 ++ news → ∃ σ', Rep (w.drew.alloc (.cells cur e)) (Ex X σ') σ' (.sl nid) (.slice (some ⟨w.heap.size, 0, none⟩) (es.length + ys.length) cap) ∧
                    Inv (w.drew.alloc (.cells cur e)) X σ' (upd [(nid, .row e i.size (es ++ ys))] h2) ∧ Step σ.length w σ (w.drew.alloc (.cells cur e)) σ' ∧ σ'.length = σ.length := by
                intro vs0 cap cur hl0 h0 hc1 hc2 hc3 htk
                obtain ⟨hI', hS'⟩ := drew_step hI
                obtain ⟨σ', h1, h2', h3, h4⟩ := new_row hI' hf' (t := e) (sz := i.size) (cap := cap) (es := es ++ ys) (vs := cur) (by simpa using hc1) hc2 hc3 (fun k a ha => by
                  obtain ⟨a1, a2⟩ := cells cur vs0 hl0 h0 htk k a ha
                  exact ⟨a1, fun j q hq => by obtain ⟨v, b1, b2, b3⟩ := a2 j q hq; exact ⟨v, b1, b2.step0 hS', b3⟩⟩)
                rw [List.length_append] at h1
                exact ⟨σ', h1, h2', hS'.trans h3, h4⟩
              rcases hkill with ⟨rfl, rfl, rfl, rfl⟩ | ⟨b, rfl, rfl, rfl, hb⟩
              · cases hr
                obtain ⟨v', w', hrun, hgrew⟩ := run_append_any w t u ty e du i z i.size i.bytes hut hdu hdi hi hz1 rfl rfl hzsz (.slice none 0 0) 0 [] ⟨by simp, .inl ⟨rfl, rfl⟩⟩ y ys.length news hok.len hok.lenOf hok.first hok.one
                  (by simp only [maxLen]; omega) (by simpa using hb2)
                rw [run_val hrun]
                rcases hgrew with ⟨_, h0, rfl, rfl⟩ | ⟨g, cap, cur, cur', hv, _⟩ | ⟨cap, cur, rfl, rfl, h1, h2', h3, h4⟩
                · have : ys = [] := List.eq_nil_of_length_eq_zero (by omega)
                  subst this
                  -- a nil row
                  have hσ := fresh_of hI hf'
                  have hlt : nid < σ.length := (List.getElem?_eq_some_iff.1 hσ).1
                  have hown : ∀ g, Owned (σ.set nid .rownil) g → Owned σ g := fun g hg => (owned_set g hg).resolve_left (by simp [Ent.blk])
                  have hget : ∀ (j : Nat) (a : Ent), (σ.set nid .rownil)[j]? = some a → (j = nid ∧ a = .rownil) ∨ (j ≠ nid ∧ σ[j]? = some a) := by
                    intro j a ha
                    rw [List.getElem?_set] at ha
                    by_cases hj : nid = j
                    · rw [if_pos hj, if_pos hlt] at ha; simp at ha; exact .inl ⟨hj.symm, ha.symm⟩
                    · rw [if_neg hj] at ha; exact .inr ⟨fun e => hj e.symm, ha⟩
                  have hS : Step σ.length w' σ w' (σ.set nid .rownil) := ⟨rfl, rfl, rfl, Nat.le_refl _, fun _ _ _ => rfl, fun g hg _ => hown g hg, fun j a _ ha hfr => by
                    rw [List.getElem?_set]
                    by_cases hj : nid = j
                    · subst hj; rw [hσ] at ha; simp at ha; exact absurd ha.symm hfr
                    · rw [if_neg hj]; exact .inl ha⟩
                  refine ⟨σ.set nid .rownil, .slN (by simp [hlt]), ⟨by simp [upd_one, hI.len], fun j c a hc ha => ?_, fun j a g ha hg => ?_, fun j k a a' g hj hk hg hg' => ?_, fun g hx ho => hI.dis g hx (hown g ho), hI.xlt⟩, hS, by simp⟩
                  · rw [upd_one, List.getElem?_set] at hc
                    rcases hget j a ha with ⟨rfl, rfl⟩ | ⟨h1, h2'⟩
                    · rw [if_pos rfl, if_pos (by rw [← hI.len]; exact hlt)] at hc
                      simp at hc; subst hc
                      simp [BlkOK]
                    · rw [if_neg (fun e => h1 e.symm)] at hc
                      exact (hI.ok j c a hc h2').step hS (Nat.le_refl _) fun _ _ => rfl
                  · rcases hget j a ha with ⟨_, rfl⟩ | ⟨_, h2'⟩
                    · simp [Ent.blk] at hg
                    · exact hI.lt j a g h2' hg
                  · rcases hget j a hj with ⟨_, rfl⟩ | ⟨_, h3⟩
                    · simp [Ent.blk] at hg
                    · rcases hget k a' hk with ⟨_, rfl⟩ | ⟨_, h4⟩
                      · simp [Ent.blk] at hg'
                      · exact hI.inj j k a a' g h3 h4 hg hg'
                · simp at hv
                · simp only [Nat.zero_add] at h1 h4 ⊢
                  have := fresh_row [] cap cur (by simp) (fun k a ha => by simp at ha) (by simpa using h1) h2' h3 (by simpa using h4)
                  simpa using this
              · have hb' : h2[b]? = some (.row e i.size es) := (hrd b (by simp)).trans hb
                have hbn : b ≠ nid := by rintro rfl; rw [hb'] at hf'; simp at hf'
                rcases row_of hI hb' with ⟨g, cap, vs, hσ, hcap, hmax, hg, hl, hrow⟩ | ⟨hσ, hes⟩
                · have hvv : v = .slice (some ⟨g, 0, none⟩) es.length cap := by
                    cases hr with
                    | sl h' => rw [hσ] at h'; simp at h'; obtain ⟨rfl, rfl, rfl, rfl⟩ := h'; rfl
                    | slN h' => rw [hσ] at h'; simp at h'
                    | slD h' => rw [hσ] at h'; simp at h'
                  subst hvv
                  have hvl : (vs.toList.take (es.length * i.size)).length = es.length * i.size := by
                    have := Nat.mul_le_mul_right i.size hcap
                    simp; omega
                  have hrl : RowOKL w (Ex X σ) i.size es (vs.toList.take (es.length * i.size)) := by
                    intro k a ha
                    obtain ⟨h1, h2⟩ := hrow k a ha
                    refine ⟨h1, fun j q hq => ?_⟩
                    obtain ⟨v, h3, h4⟩ := h2 j q hq
                    have hj : j < i.size := by rw [← h1]; exact (List.getElem?_eq_some_iff.1 hq).1
                    have hkl := (List.getElem?_eq_some_iff.1 ha).1
                    have := Nat.mul_le_mul_right i.size (show k + 1 ≤ es.length from hkl)
                    rw [Nat.succ_mul] at this
                    exact ⟨v, by rw [List.getElem?_take, if_pos (by omega), Array.getElem?_toList]; exact h3, h4⟩
                  obtain ⟨v', w', hrun, hgrew⟩ := run_append_any w t u ty e du i z i.size i.bytes hut hdu hdi hi hz1 rfl rfl hzsz (.slice (some ⟨g, 0, none⟩) es.length cap) es.length (vs.toList.take (es.length * i.size))
                    ⟨hvl, .inr ⟨g, cap, vs, rfl, hg, hcap, hmax, hl, rfl⟩⟩ y ys.length news hok.len hok.lenOf hok.first hok.one (by simp only [maxLen]; omega) hb2
                  rw [run_val hrun]
                  rcases hgrew with ⟨hv, _⟩ | ⟨g1, cap1, cur, cur', hv, hat, rfl, rfl, hcs, h1, h2', h3, h4⟩ | ⟨cap', cur, rfl, rfl, h1, h2', h3, h4⟩
                  · simp at hv
                  · simp at hv
                    obtain ⟨rfl, rfl⟩ := hv
                    obtain ⟨f1, f2, f3, f4, f5⟩ := setRow_facts (w := w) (g := g) (cs := cur')
                    have hm := move_inv (w' := w.setRow g cur') hI hf' hσ (e' := .row g i.size (es.length + ys.length) cap) rfl rfl f1 f2 f3 f4 f5 (bl := .row e i.size (es ++ ys)) fun hS =>
                      ⟨rfl, by simp, by simpa using h1, hmax, cur', hat.set hcs, by rw [hcs, h3], fun k a ha => by
                        obtain ⟨a1, a2⟩ := cells cur' _ hvl hrl h4 k a (by simpa using ha)
                        exact ⟨a1, fun j q hq => by obtain ⟨v, b1, b2, b3⟩ := a2 j q hq; exact ⟨v, b1, b2.step0 hS, b3⟩⟩⟩
                    refine ⟨_, .sl (sz := i.size) ?_, hm.1, hm.2, by simp⟩
                    rw [List.getElem?_set, if_neg hbn, List.getElem?_set, if_pos rfl, if_pos]
                    exact (List.getElem?_eq_some_iff.1 (fresh_of hI hf')).1
                  · obtain ⟨σ', a1, a2, a3, a4⟩ := fresh_row _ cap' cur hvl hrl h1 h2' h3 h4
                    obtain ⟨b1, b2⟩ := a2.drop σ'.length b
                    refine ⟨σ'.set b .dead, a1.step b2 (Nat.le_refl _), b1, a3.trans (by rw [← a4]; exact b2), by simp [a4]⟩
                · subst hes
                  have hvv : v = .slice none 0 0 := by
                    cases hr with
                    | sl h' => rw [hσ] at h'; simp at h'
                    | slN h' => rfl
                    | slD h' => rw [hσ] at h'; simp at h'
                  subst hvv
                  obtain ⟨v', w', hrun, hgrew⟩ := run_append_any w t u ty e du i z i.size i.bytes hut hdu hdi hi hz1 rfl rfl hzsz (.slice none 0 0) 0 [] ⟨by simp, .inl ⟨rfl, rfl⟩⟩ y ys.length news hok.len hok.lenOf hok.first hok.one
                    (by simp only [maxLen]; omega) (by simpa using hb2)
                  rw [run_val hrun]
                  rcases hgrew with ⟨_, h0, rfl, rfl⟩ | ⟨g, cap, cur, cur', hv, _⟩ | ⟨cap, cur, rfl, rfl, h1, h2', h3, h4⟩
                  · have : ys = [] := List.eq_nil_of_length_eq_zero (by omega)
                    subst this
                    -- the nil row goes on under the new number
                    have hσn := fresh_of hI hf'
                    have hnlt : nid < σ.length := (List.getElem?_eq_some_iff.1 hσn).1
                    have hget : ∀ (j : Nat) (a : Ent), (σ.set nid .rownil)[j]? = some a → (j = nid ∧ a = .rownil) ∨ (j ≠ nid ∧ σ[j]? = some a) := by
                      intro j a ha
                      rw [List.getElem?_set] at ha
                      by_cases hj : nid = j
                      · rw [if_pos hj, if_pos hnlt] at ha; simp at ha; exact .inl ⟨hj.symm, ha.symm⟩
                      · rw [if_neg hj] at ha; exact .inr ⟨fun e => hj e.symm, ha⟩
                    have hown : ∀ g, Owned (σ.set nid .rownil) g → Owned σ g := fun g hg => (owned_set g hg).resolve_left (by simp [Ent.blk])
                    have hS : Step σ.length w' σ w' (σ.set nid .rownil) := ⟨rfl, rfl, rfl, Nat.le_refl _, fun _ _ _ => rfl, fun g hg _ => hown g hg, fun j a _ ha hfr => by
                      rw [List.getElem?_set]
                      by_cases hj : nid = j
                      · subst hj; rw [hσn] at ha; simp at ha; exact absurd ha.symm hfr
                      · rw [if_neg hj]; exact .inl ha⟩
                    have hI1 : Inv w' X (σ.set nid .rownil) (h2.set nid (.row e i.size [])) := by
                      refine ⟨by simp [hI.len], fun j c a hc ha => ?_, fun j a g ha hg => ?_, fun j k a a' g hj hk hg hg' => ?_, fun g hx ho => hI.dis g hx (hown g ho), hI.xlt⟩
                      · rw [List.getElem?_set] at hc
                        rcases hget j a ha with ⟨rfl, rfl⟩ | ⟨h1, h2'⟩
                        · rw [if_pos rfl, if_pos (by rw [← hI.len]; exact hnlt)] at hc
                          simp at hc; subst hc
                          simp [BlkOK]
                        · rw [if_neg (fun e => h1 e.symm)] at hc
                          exact (hI.ok j c a hc h2').step hS (Nat.le_refl _) fun _ _ => rfl
                      · rcases hget j a ha with ⟨_, rfl⟩ | ⟨_, h2'⟩
                        · simp [Ent.blk] at hg
                        · exact hI.lt j a g h2' hg
                      · rcases hget j a hj with ⟨_, rfl⟩ | ⟨_, h3⟩
                        · simp [Ent.blk] at hg
                        · rcases hget k a' hk with ⟨_, rfl⟩ | ⟨_, h4⟩
                          · simp [Ent.blk] at hg'
                          · exact hI.inj j k a a' g h3 h4 hg hg'
                    obtain ⟨b1, b2⟩ := hI1.drop (σ.set nid .rownil).length b
                    refine ⟨(σ.set nid .rownil).set b .dead, .slN ?_, by simpa [upd] using b1, hS.trans (by simpa using b2), by simp⟩
                    rw [List.getElem?_set, if_neg hbn, List.getElem?_set, if_pos rfl, if_pos hnlt]
                  · simp at hv
                  · simp only [Nat.zero_add] at h1 h4
                    obtain ⟨σ', a1, a2, a3, a4⟩ := fresh_row [] cap cur (by simp) (fun k a ha => by simp at ha) (by simpa using h1) h2' h3 (by simpa using h4)
                    obtain ⟨b1, b2⟩ := a2.drop σ'.length b
                    refine ⟨σ'.set b .dead, by simpa using a1.step b2 (Nat.le_refl _), b1, a3.trans (by rw [← a4]; exact b2), by simp [a4]⟩
            · intro p hp
              rcases hkill with ⟨_, _, rfl, rfl⟩ | ⟨b, _, rfl, rfl, _⟩
              · simp at hp; subst hp; simp
              · simp at hp
                rcases hp with rfl | rfl <;> simp
        | _ => exact hk.elim

theorem slB_of (l : Tab) : ∀ {t : TypeId} {te : TE}, l[t]? = some te → slB l t = (match te.ti with | .slice _ => true | _ => false) := by
  induction l with
  | nil => intro t te h; simp at h
  | cons x l ih =>
    intro t te h
    cases t with
    | zero => simp at h; subst h; rfl
    | succ t => exact ih (by simpa using h)
theorem slB_slice (hT : TabOK P T) {t e : TypeId} (h : ∃ te, T[t]? = some te) (hti : (teOf P t).ti = .slice e) : slB T t = true := by
  obtain ⟨te, h⟩ := h
  rw [slB_of T h, hT t te h, hti]
theorem isByteK_sound (hT : TabOK P T) {e : TypeId} {k : Prop} (h : isByteK T e k) : P.underlying e = some (.int .u8) ∧ k := by
  have h := tyK_sound hT (show tyK T e _ from h)
  split at h
  · rename_i hei
    exact ⟨und_int (ti_of hei (by simp)).1, h⟩
  · exact h.elim
theorem bytes_run (w : World) (a t e : TypeId) {E : Nat → Prop} {σ : Sg} {v : Value} (ha : P.underlying a = some (.slice e)) (he : P.underlying e = some (.int .u8)) (ht : P.underlying t = some .string)
    (s : List UInt8) (hr : Rep w E σ (.rs 1 (s.map byteCell)) v) : (convert a t v).run P w = .ok (.string ⟨s.toArray⟩) w := by
  generalize hes : s.map byteCell = es at hr
  cases hr with
  | @rs0 _ _ ad c _ =>
    have : s = [] := by simpa using hes
    subst this
    cases ad with
    | none => rw [run_convert_bytes_nil w a e ha he 0 c t ht]; rfl
    | some ad => exact run_convert_bytes_back w a t e ad c [] ha he ht (by simp)
  | @rs _ _ _ ad c val hc hm hE hlt hlen hcell hone hrep =>
    subst hes
    rw [List.length_map]
    refine run_convert_bytes_back w a t e ad c s ha he ht fun j hj => ?_
    have h1 : (s.map byteCell)[j]? = some (byteCell s[j]) := by simp [hj]
    have h2 := hcell j _ 0 (.int .u8 (s[j].toNat : Int)) h1 rfl
    have h3 := hrep j _ 0 (.int .u8 (s[j].toNat : Int)) h1 rfl
    rw [show j * 1 + 0 = j by omega] at h2
    rw [h2]
    generalize val j 0 = q at h3
    cases h3
    rfl
theorem convert_ok (hT : TabOK P T) {F : Fr} {h : Hp} {nid : Nat} {a t : TypeId} {x : Operand} {K : Kop} (hf : allocs T (.convert a t x) = true → h[nid]? = some .fresh) (hk : opK T F h nid (.convert a t x) K) : OpGood P F h (.convert a t x) K := by
  have hf : slB T t = true → h[nid]? = some .fresh := hf
  obtain ⟨ta, hta0, hk1⟩ := nthK_sound (show tyK T a _ from hk)
  obtain ⟨tt, htt0, hk2⟩ := nthK_sound (show tyK T t _ from hk1)
  clear hk hk1
  obtain ⟨sx, hk, hx⟩ := evK_sound hk2
  clear hk2
  have hta1 := hT a ta hta0
  have htt1 := hT t tt htt0
  subst hta1; subst htt1
  generalize hta : (teOf P a).ti = ta at hk
  generalize htt : (teOf P t).ti = tt at hk
  have hsrc : ta ≠ .none → (P.underlying a).isSome = true := fun hne => by
    have := (ti_of hta hne).1
    cases hu : P.underlying a with
    | none => simp [tiOf, hu] at this; exact absurd this.symm hne
    | some _ => rfl
  have key : ∀ k, tt = .int k → ta ≠ .none → ∀ q n, sx = .int q n → K (.int k (k.wrap n)) [] [] → OpGood P F h (.convert a t x) K := by
    intro k htk hne q n hs hkk
    subst htk; subst hs
    exact good_pure hkk fun w E σ ρ d ty pos after guard ho => by
      have h1 := hx w E σ ρ (ho x (by simp [Op.operands]))
      generalize hρ : ρ x = vx at h1
      cases h1
      refine ⟨_, run_val ?_, .int⟩
      rw [hρ]
      obtain ⟨da, hda⟩ := Option.isSome_iff_exists.1 (hsrc hne)
      simp [convert, run_underlying' hda, run_underlying' (und_int (ti_of htt (by simp)).1), Conv.intToInt]
  have toB : ∀ e, tt = .slice e → ta = .str → ∀ s, sx = .str s → isByteK T e (s.length ≤ 4611686018427387903 ∧ K (.sl nid) [(nid, .row e 1 (s.map byteCell))] [nid]) → OpGood P F h (.convert a t x) K := by
    intro e hte hta' s hs hkk
    subst hte; subst hta'; subst hs
    obtain ⟨he, hsl, hkk⟩ := isByteK_sound hT hkk
    have hu := und_str (ti_of hta (by simp)).1
    have hd := und_slice (ti_of htt (by simp)).1
    refine ⟨_, _, _, hkk, fun w X σ h2 ρ d ty pos after guard hI ho hrd => ?_, by simp⟩
    have hf' : h2[nid]? = some .fresh := (hrd nid (by simp)).trans (hf (slB_slice hT ⟨_, htt0⟩ htt))
    have h1 := hx w _ σ ρ (ho x (by simp [Op.operands]))
    generalize hρ : ρ x = vx at h1
    cases h1
    unfold OpRes DoneS
    rw [show execOp ρ ⟨d, .convert a t x, ty, pos, after, guard⟩ = (do pure (.value (← convert a t (ρ x)))) from rfl, hρ, run_val (run_bytes_of_string w a t e ⟨s.toArray⟩ hu hd he)]
    obtain ⟨hI', hS'⟩ := drew_step hI
    have hsz : (ByteArray.size ⟨s.toArray⟩) = s.length := by simp [ByteArray.size]
    rw [hsz]
    generalize hcap : grownCap w s.length 0 e = cap
    have hge : s.length ≤ cap := by rw [← hcap]; exact grownCap_ge _ _ _ _
    have hcm : cap ≤ maxLen := by rw [← hcap]; exact grownCap_le_maxLen _ _ _ _ (by simp only [maxLen]; omega)
    have hbs : (bytesRow ⟨s.toArray⟩ cap).size = cap := by simp [bytesRow, hsz]; omega
    have := new_row_at (w' := w.drew.alloc (.cells (bytesRow ⟨s.toArray⟩ cap) e ((bytesRow ⟨s.toArray⟩ cap).size, (bytesRow ⟨s.toArray⟩ cap).size + 1))) hI' hf' (t := e) (sz := 1) (cap := cap) (es := s.map byteCell) (vs := bytesRow ⟨s.toArray⟩ cap)
      rfl rfl rfl rfl ⟨_, heap_alloc_new w.drew _, fun k hk h => by have := h.1; simp only [] at this; omega⟩ (by simpa using hge) hcm (by rw [hbs]; omega) (fun i b hb => by
        rw [List.getElem?_map] at hb
        cases hi : s[i]? with
        | none => rw [hi] at hb; simp at hb
        | some c =>
          rw [hi] at hb
          simp [byteCell] at hb
          subst hb
          refine ⟨rfl, fun j q hj => ?_⟩
          have hj0 : j = 0 := by
            have := (List.getElem?_eq_some_iff.1 hj).1; simpa using this
          subst hj0
          simp at hj
          subst hj
          refine ⟨.int .u8 (c.toNat : Int), ?_, .int, rfl⟩
          have hil := (List.getElem?_eq_some_iff.1 hi).1
          have hce : s[i] = c := (List.getElem?_eq_some_iff.1 hi).2
          simp [bytesRow, Array.getElem?_append, hil, hce])
    rw [List.length_map] at this
    obtain ⟨σ', a1, a2, a3, a4⟩ := this
    exact ⟨σ', a1, a2, hS'.trans a3, a4⟩
  have ofB : ∀ e, ta = .slice e → tt = .str → ∀ es rd, P.underlying e = some (.int .u8) → (StrG es fun s => K (.str s) [] rd) → (∀ (w : World) (X : Nat → Prop) (σ : Sg) (h2 : Hp) (v : Value), Inv w X σ h2 → (∀ i ∈ rd, h2[i]? = h[i]?) → Rep w (Ex X σ) σ sx v → ∃ E, Rep w E σ (.rs 1 es) v) → OpGood P F h (.convert a t x) K := by
    intro e hta' htt' es rd he hkk hrep
    subst hta'; subst htt'
    obtain ⟨s, rfl, hkk⟩ := hkk
    have hu := und_slice (ti_of hta (by simp)).1
    have hd := und_str (ti_of htt (by simp)).1
    refine ⟨_, _, _, hkk, fun w X σ h2 ρ d ty pos after guard hI ho hrd => ?_, by simp⟩
    obtain ⟨E, h1⟩ := hrep w X σ h2 _ hI hrd (hx w _ σ ρ (ho x (by simp [Op.operands])))
    exact .pure (run_val (bytes_run w a t e hu he hd s h1)) hI .str
  cases ta <;> cases tt <;> first | exact hk.elim | (cases sx <;> first | exact hk.elim | exact key _ rfl (by simp) _ _ rfl hk | exact toB _ rfl rfl _ rfl hk | skip)
  case slice.str.nils e =>
    obtain ⟨he, hk⟩ := isByteK_sound hT hk
    refine ofB e rfl rfl [] [] he ⟨[], rfl, hk⟩ fun w X σ h2 v _ _ hr => ⟨fun _ => False, ?_⟩
    cases hr
    exact .rs0 (Nat.zero_le _)
  case slice.str.rs e z es =>
    obtain ⟨he, hk⟩ := isByteK_sound hT hk
    obtain ⟨hz, hk⟩ := eqNK_sound hk
    subst hz
    exact ofB e rfl rfl es [] he hk fun w X σ h2 v _ _ hr => ⟨_, hr⟩
  case slice.str.sl e b =>
    obtain ⟨he, hk⟩ := isByteK_sound hT hk
    obtain ⟨blk, hb, hk⟩ := nthK_sound (show nthK h b _ from hk)
    cases blk with
    | row t0 z es =>
      obtain ⟨hz, hk⟩ := eqNK_sound hk
      subst hz
      refine ofB e rfl rfl es [b] he hk fun w X σ h2 v hI hrd hr => ⟨fun _ => False, ?_⟩
      have hb' : h2[b]? = some (.row t0 1 es) := (hrd b (by simp)).trans hb
      rcases row_of hI hb' with ⟨g, cap, vs, hσ, hcap, hmax, hg, hl, hrow⟩ | ⟨hσ, hes⟩
      · cases hr with
        | sl h' =>
          rw [hσ] at h'; simp at h'; obtain ⟨rfl, rfl, rfl, rfl⟩ := h'
          obtain ⟨fr, hg, _⟩ := hg
          refine .rs (val := fun i j => (vs[i * 1 + j]?).getD Go.undef) hcap hmax (fun h => h) (Array.getElem?_eq_some_iff.1 hg).1 (fun i e he => (hrow i e he).1) (fun i e j s he hs => ?_) (fun i e j s he hs => ?_) (fun i e j s he hs => ?_)
          all_goals obtain ⟨v, a, b, c⟩ := (hrow i e he).2 j s hs
          · rw [cell_at hg, Nat.zero_add, a]; rfl
          · rw [a]; exact c
          · rw [a]; exact b.mono [] (fun _ _ _ => rfl) (Nat.le_refl _) (fun _ _ _ h => h.elim) (by simp)
        | slN h' => rw [hσ] at h'; simp at h'
        | slD h' => rw [hσ] at h'; simp at h'
      · subst hes
        cases hr with
        | sl h' => rw [hσ] at h'; simp at h'
        | slN h' => exact .rs0 (Nat.zero_le _)
        | slD h' => rw [hσ] at h'; simp at h'
    | _ => exact hk.elim
end
end Go.Sx
