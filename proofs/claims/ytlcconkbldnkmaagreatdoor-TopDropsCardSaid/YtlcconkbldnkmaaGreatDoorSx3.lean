/- Part of the executor and its soundness, or of what it is told of this seat's program. No statement of the seat is proved here. -/
import Derived.Test.YtlcconkbldnkmaaGreatDoorSx2
import Derived.ChangeKeysEq
import Derived.Lib.UnsafeStr
set_option linter.unusedSimpArgs false
set_option linter.unusedVariables false
/- append: the operation. No statement of the seat is proved here. -/
namespace Go.Sx
section
variable {P : Program} {T : Tab}

noncomputable def catK {α : Type} (c : Bool) (a b : List α) (k : List α → Prop) : Prop := Bool.rec (motive := fun _ => Prop) (k (a ++ b)) (appK a b k) c
theorem catK_sound {α : Type} {c : Bool} {a b : List α} {k : List α → Prop} (h : catK c a b k) : k (a ++ b) := by
  cases c with
  | true => exact appK_sound h
  | false => exact h
noncomputable def preK {α : Type} (c : Bool) (n : Nat) (a : List α) (k : List α → Prop) : Prop := Bool.rec (motive := fun _ => Prop) (k (a.take n)) (takeK n a k) c
theorem preK_sound {α : Type} {c : Bool} {n : Nat} {a : List α} {k : List α → Prop} (h : preK c n a k) : k (a.take n) := by
  cases c with
  | true => exact (takeK_sound h).2
  | false => exact h
noncomputable def sufK {α : Type} (c : Bool) (n : Nat) (a : List α) (k : List α → Prop) : Prop := Bool.rec (motive := fun _ => Prop) (k (a.drop n)) (dropK n a k) c
theorem sufK_sound {α : Type} {c : Bool} {n : Nat} {a : List α} {k : List α → Prop} (h : sufK c n a k) : k (a.drop n) := by
  cases c with
  | true => exact (dropK_sound h).2
  | false => exact h

noncomputable def roomB (es : List (List SV)) (n : Nat) : Bool := List.rec (motive := fun _ => Bool) false (fun _ _ _ => Nat.ble n es.length) es
theorem roomB_spec {es : List (List SV)} {n : Nat} (h : roomB es n = true) : n ≤ es.length ∧ es ≠ [] := by
  cases es with
  | nil => exact absurd h (by simp [roomB])
  | cons e es => exact ⟨Nat.le_of_ble_eq_true h, by simp⟩
def fitB (n m by' : Nat) : Bool := decide (n + m ≤ 4611686018427387903 ∧ (n + m) * by' ≤ 140737488355328)

/-- append, where a new number goes to what is grown, and what fits into a row is written there. -/
noncomputable def appV (T : Tab) (c : Bool) (hg : HgF) (nid : Nat) (t u : TypeId) (s x : SV) (K : Kop) : Prop :=
  tyK T t fun te => match te.ti with
    | .slice e => tyK T e fun ee => zeroK ee.zero fun zs => leNK 1 ee.size (srcV T c hg u e ee.size zs x fun ps xs rd => match s with
      | .nils => bChk (fitB 0 xs.length ee.bytes) (K (.sl nid) [(nid, rowOf' ps e ee.size xs)] (nid :: rd))
      | .z0 => tyK T u fun tu => match tu.ti with
        | .slice _ => List.rec (motive := fun _ => Prop) (K .z0 [] rd) (fun _ _ _ => bChk (fitB 0 xs.length ee.bytes) (K (.sl nid) [(nid, rowOf' ps e ee.size xs)] (nid :: rd))) xs
        | _ => False
      | .sl b => rowsK hg b fun pd t0 q es => eqNK t0 e (eqNK q ee.size (bChk (fitB es.length xs.length ee.bytes) (catK c es xs fun r => K (.sl nid) [(nid, rowOf' (orB pd ps) e ee.size r), (b, .dead)] (nid :: b :: rd))))
      | .ss b lo m => rowsK hg b fun pd t0 q es => eqNK t0 e (eqNK q ee.size (bChk (fitB m xs.length ee.bytes) (bFork (roomB es (lo + m + xs.length))
        (preK c (lo + m) es fun a => sufK c (lo + m + xs.length) es fun d => catK c xs d fun y => catK c a y fun r => K (.ss b lo (m + xs.length)) [(b, rowOf' (orB pd ps) e ee.size r)] (b :: rd))
        (eqNK lo 0 (leNK m es.length <| leNK 1 es.length <| preK c m es fun a => catK c a xs fun r => K (.sl nid) [(nid, rowOf' (orB pd ps) e ee.size r), (b, .dead)] (nid :: b :: rd))))))
      | _ => False)
    | _ => False

/-- What a row and what follows it hold. -/
theorem cat_rows {w : World} {E : Nat → Prop} {σ : Sg} {pa pb : Bool} {z : Nat} {es ys : List (List SV)} {ws : Array Value} {vs0 news : List Value}
    (hl0 : vs0.length = es.length * z) (h0 : POKL w E (tau pa σ) z es vs0) (hok : POKL w E (tau pb σ) z ys news) (htk : ws.toList.take ((es.length + ys.length) * z) = vs0 ++ news) :
    POK w E (tau (orB pa pb) σ) z (es ++ ys) ws := by
  have ha : ∀ {s : SV} {v : Value}, Rep w E (tau pa σ) s v → Rep w E (tau (orB pa pb) σ) s v := fun h => tau_up (fun hq => (orB_false hq).1) h
  have hb : ∀ {s : SV} {v : Value}, Rep w E (tau pb σ) s v → Rep w E (tau (orB pa pb) σ) s v := fun h => tau_up (fun hq => (orB_false hq).2) h
  intro k a hka
  have hkl : k < es.length + ys.length := by
    have := (List.getElem?_eq_some_iff.1 hka).1; simpa using this
  have hat : ∀ j, j < z → ws[k * z + j]? = (vs0 ++ news)[k * z + j]? := fun j hj => by
    refine take_mul_get htk _ ?_
    have := Nat.mul_le_mul_right z (show k + 1 ≤ es.length + ys.length from hkl)
    rw [Nat.succ_mul] at this
    omega
  rw [List.getElem?_append] at hka
  by_cases hkes : k < es.length
  · rw [if_pos hkes] at hka
    obtain ⟨h1, h2⟩ := h0 k a hka
    refine ⟨h1, fun j q hq => ?_⟩
    obtain ⟨v, h3, h4, h5⟩ := h2 j q hq
    have hj : j < z := by rw [← h1]; exact (List.getElem?_eq_some_iff.1 hq).1
    refine ⟨v, ?_, ha h4, h5⟩
    rw [hat j hj, List.getElem?_append_left (List.getElem?_eq_some_iff.1 h3).1, h3]
  · rw [if_neg hkes] at hka
    obtain ⟨h1, h2⟩ := hok _ a hka
    refine ⟨h1, fun j q hq => ?_⟩
    obtain ⟨v, h3, h4, h5⟩ := h2 j q hq
    have hj : j < z := by rw [← h1]; exact (List.getElem?_eq_some_iff.1 hq).1
    refine ⟨v, ?_, hb h4, h5⟩
    have hle : es.length * z ≤ k * z := Nat.mul_le_mul_right _ (by omega)
    rw [hat j hj, List.getElem?_append_right (by rw [hl0]; omega), hl0]
    rw [show k * z + j - es.length * z = (k - es.length) * z + j by rw [Nat.sub_mul]; omega]
    exact h3
theorem POK.steps {p : Bool} {m : Nat} {w w' : World} {X : Nat → Prop} {σ σ' : Sg} {z : Nat} {es : List (List SV)} {vs : Array Value} (h : POK w (Ex X σ) (tau p σ) z es vs) (k : Step m w σ w' σ') (hm : σ.length ≤ m) : POK w' (Ex X σ') (tau p σ') z es vs :=
  fun i e he => ⟨(h i e he).1, fun j s hs => by obtain ⟨v, a, b, c⟩ := (h i e he).2 j s hs; exact ⟨v, a, tau_step b k hm, c⟩⟩
theorem nil_row {w : World} {X : Nat → Prop} {σ : Sg} {h2 : Hp} (hI : Inv w X σ h2) {nid : Nat} (hf : h2[nid]? = some .fresh) (p : Bool) (e : TypeId) (z : Nat) :
    Rep w (Ex X (σ.set nid .rownil)) (σ.set nid .rownil) (.sl nid) (.slice none 0 0) ∧ Inv w X (σ.set nid .rownil) (h2.set nid (rowOf' p e z [])) ∧ Step σ.length w σ w (σ.set nid .rownil) := by
  have hσ := fresh_of hI hf
  have hlt : nid < σ.length := (List.getElem?_eq_some_iff.1 hσ).1
  have hown : ∀ g, Owned (σ.set nid .rownil) g → Owned σ g := fun g hg => (owned_set g hg).resolve_left (by simp [Ent.blk])
  have hget : ∀ (j : Nat) (a : Ent), (σ.set nid .rownil)[j]? = some a → (j = nid ∧ a = .rownil) ∨ (j ≠ nid ∧ σ[j]? = some a) := by
    intro j a ha
    rw [List.getElem?_set] at ha
    by_cases hj : nid = j
    · rw [if_pos hj, if_pos hlt] at ha; simp at ha; exact .inl ⟨hj.symm, ha.symm⟩
    · rw [if_neg hj] at ha; exact .inr ⟨fun e => hj e.symm, ha⟩
  have hS : Step σ.length w σ w (σ.set nid .rownil) := ⟨rfl, rfl, rfl, Nat.le_refl _, fun _ _ _ => rfl, fun g hg _ => hown g hg, fun j a _ ha hfr => by
    rw [List.getElem?_set]
    by_cases hj : nid = j
    · subst hj; rw [hσ] at ha; simp at ha; exact absurd ha.symm hfr
    · rw [if_neg hj]; exact .inl ha⟩
  refine ⟨.slN (by simp [hlt]), ⟨by simp [hI.len], fun j c a hc ha => ?_, fun j a g ha hg => ?_, fun j k a a' g hj hk hg hg' => ?_, fun g hx ho => hI.dis g hx (hown g ho), hI.xlt⟩, hS⟩
  · rw [List.getElem?_set] at hc
    rcases hget j a ha with ⟨rfl, rfl⟩ | ⟨h1, h2'⟩
    · rw [if_pos rfl, if_pos (by rw [← hI.len]; exact hlt)] at hc
      simp at hc; subst hc
      exact nil_blk
    · rw [if_neg (fun e => h1 e.symm)] at hc
      exact (hI.ok j c a hc h2').step hS (Nat.le_refl _) fun _ _ => rfl
  · rcases hget j a ha with ⟨_, rfl⟩ | ⟨_, h2'⟩
    · simp [Ent.blk] at hg
    · exact hI.lt j a g h2' hg
  · rcases hget j a hj with ⟨_, rfl⟩ | ⟨_, h3⟩
    · simp [Ent.blk] at hg
    · rcases hget k a' hk with ⟨_, rfl⟩ | ⟨_, h4⟩
      · simp [Ent.blk] at hg'
      · exact hI.inj j k a a' g h3 h4 hg hg'
/-- A new row, of pointers or not. -/
theorem new_rows {w : World} {X : Nat → Prop} {σ : Sg} {h2 : Hp} (hI : Inv w X σ h2) {nid : Nat} (hf : h2[nid]? = some .fresh) {p : Bool} {t : TypeId} {sz cap : Nat} {es : List (List SV)} {vs : Array Value}
    (hcap : es.length ≤ cap) (hmax : cap ≤ maxLen) (hl : vs.size = cap * sz) (hc : POK w (Ex X σ) (tau p σ) sz es vs) :
    ∃ σ', Rep (w.alloc (.cells vs t)) (Ex X σ') σ' (.sl nid) (.slice (some ⟨w.heap.size, 0, none⟩) es.length cap) ∧ Inv (w.alloc (.cells vs t)) X σ' (upd [(nid, rowOf' p t sz es)] h2) ∧ Step σ.length w σ (w.alloc (.cells vs t)) σ' ∧ σ'.length = σ.length := by
  cases p with
  | false => exact new_row hI hf hcap hmax hl hc
  | true => exact new_prow hI hf hcap hmax hl hc

theorem append_core (hT : TabOK P T) {c : Bool} {F : Fr} {h : Hp} {nid : Nat} (hf : h[nid]? = some .fresh) {xs : Array Operand} {ats : Array TypeId} {x0 y0 : Operand} {t u : TypeId} (hxs : xs.toList = [x0, y0]) (hats : ats.toList = [t, u]) {K : Kop}
    {s x : SV} (hs : ∀ (w : World) (E : Nat → Prop) (σ : Sg) (ρ : Operand → Value), OpnRep w E σ F ρ x0 → Rep w E σ s (ρ x0)) (hx : ∀ (w : World) (E : Nat → Prop) (σ : Sg) (ρ : Operand → Value), OpnRep w E σ F ρ y0 → Rep w E σ x (ρ y0))
    (hk : appV T c (nthK h) nid t u s x K) : OpGood P F h (.call ⟨.builtin .append, xs, ats⟩) K := by
  have hats : ats = #[t, u] := by rw [← Array.toArray_toList (xs := ats), hats]
  subst hats
  have hos : ∀ (w : World) (E : Nat → Prop) (σ : Sg) (ρ : Operand → Value), (∀ z ∈ (Op.call ⟨.builtin .append, xs, #[t, u]⟩).operands.toList, OpnRep w E σ F ρ z) → xs.toList.map ρ = [ρ x0, ρ y0] ∧ Rep w E σ s (ρ x0) ∧ Rep w E σ x (ρ y0) := fun w E σ ρ ho => by
    refine ⟨by rw [hxs]; rfl, hs w E σ ρ (ho x0 ?_), hx w E σ ρ (ho y0 ?_)⟩
    · simp [Op.operands, Call.operands, hxs]
    · simp [Op.operands, Call.operands, hxs]
  have hk := tyK_sound hT (show tyK T t _ from hk)
  generalize hti : (teOf P t).ti = ti at hk
  cases ti with
  | slice e =>
    replace hk := tyK_sound hT (show tyK T e _ from hk)
    obtain ⟨i, z, hi, hsize, hbytes, hz, hz1, hz3, hzsz, hk⟩ := info_of_zero hk
    obtain ⟨hpos, hk⟩ := leNK_sound hk
    have hut := und_slice (ti_of hti (by simp)).1
    rw [hsize] at hpos hk
    rw [hz] at hk
    obtain ⟨ps, ys, rd', hk, hsrc⟩ := srcVR_sound hT hut hi hz1 hz3 hzsz hpos hk
    -- the way to the operation
    have go : ∀ {ρ : Operand → Value} {d : Option Tmp} {ty : TypeId} {pos : String} {after : Array Edge} {guard : Option (Nat × Bool)} {w w' : World} {X : Nat → Prop} {σ : Sg} {h2 : Hp} {r : SV} {ws : Ws} {v' : Value},
        xs.toList.map ρ = [ρ x0, ρ y0] → (Builtin.append_ #[t, u] ty #[ρ x0, ρ y0]).run P w = .ok v' w' →
        (∃ σ', Rep w' (Ex X σ') σ' r v' ∧ Inv w' X σ' (upd ws h2) ∧ Step σ.length w σ w' σ' ∧ σ'.length = σ.length) → OpRes P (execOp ρ ⟨d, .call ⟨.builtin .append, xs, #[t, u]⟩, ty, pos, after, guard⟩) w X σ h2 r ws := by
      intro ρ d ty pos after guard w w' X σ h2 r ws v' hv hr res
      exact opres_val (m := Builtin.append_ #[t, u] ty #[ρ x0, ρ y0]) (by rw [exec_builtin, map_of_list hv]; rfl) hr res
    -- a destination of m elements at the beginning of a row goes on under a new number
    have grow : ∀ (b m : Nat) (pd : Bool) (es : List (List SV)), h[b]? = some (rowOf' pd e i.size es) → m ≤ es.length → (fitB m ys.length (teOf P e).bytes = true) →
        (∀ (w : World) (X : Nat → Prop) (σ : Sg) (h2 : Hp) (v : Value), Inv w X σ h2 → h2[b]? = h[b]? → Rep w (Ex X σ) σ s v → (∃ g cap, σ[b]? = some (.row g i.size es.length cap) ∧ v = .slice (some ⟨g, 0, none⟩) m cap) ∨ (σ[b]? = some .rownil ∧ v = .slice none 0 0)) →
        K (.sl nid) [(nid, rowOf' (orB pd ps) e i.size (es.take m ++ ys)), (b, .dead)] (nid :: b :: rd') → OpGood P F h (.call ⟨.builtin .append, xs, #[t, u]⟩) K := by
      intro b m pd es hb hm hfit hv hk
      obtain ⟨hb1, hb2⟩ := of_decide_eq_true hfit
      rw [hbytes] at hb2
      have htl : (es.take m).length = m := by simp [hm]
      refine ⟨_, _, _, hk, fun w X σ h2 ρ d ty pos after guard hI ho hrd => ?_, by simp⟩
      have hf' : h2[nid]? = some .fresh := (hrd nid (by simp)).trans hf
      obtain ⟨hmap, hr, hr'⟩ := hos w _ σ ρ ho
      obtain ⟨news, hnl, hn1, hok, happ, _, _⟩ := hsrc w X σ h2 (ρ y0) hI (fun j hj => hrd j (by simp [hj])) hr'
      have hb' : h2[b]? = some (rowOf' pd e i.size es) := (hrd b (by simp)).trans hb
      have hbn : b ≠ nid := by
        rintro rfl; rw [hb'] at hf'; cases pd <;> simp [rowOf'] at hf'
      -- a new row
      have fresh_row : ∀ (es0 : List (List SV)) (vs0 : List Value) (cap : Nat) (cur : Array Value), vs0.length = es0.length * i.size → POKL w (Ex X σ) (tau pd σ) i.size es0 vs0 → es0.length + ys.length ≤ cap → cap ≤ maxLen → cur.size = cap * i.size →
          cur.toList.take ((es0.length + ys.length) * i.size) = vs0 ++ news → ∃ σ', Rep (w.drew.alloc (.cells cur e)) (Ex X σ') σ' (.sl nid) (.slice (some ⟨w.heap.size, 0, none⟩) (es0.length + ys.length) cap) ∧
            Inv (w.drew.alloc (.cells cur e)) X σ' (upd [(nid, rowOf' (orB pd ps) e i.size (es0 ++ ys)), (b, .dead)] h2) ∧ Step σ.length w σ (w.drew.alloc (.cells cur e)) σ' ∧ σ'.length = σ.length := by
        intro es0 vs0 cap cur hl0 h0 hc1 hc2 hc3 htk
        obtain ⟨hI', hS'⟩ := drew_step hI
        obtain ⟨σ', h1, h2', h3, h4⟩ := new_rows hI' hf' (p := orB pd ps) (t := e) (sz := i.size) (cap := cap) (es := es0 ++ ys) (vs := cur) (by simpa using hc1) hc2 hc3 ((cat_rows hl0 h0 hok htk).steps hS' (Nat.le_refl _))
        rw [List.length_append] at h1
        obtain ⟨b1, b2⟩ := h2'.drop σ'.length b
        exact ⟨σ'.set b .dead, h1.step b2 (Nat.le_refl _), b1, (hS'.trans h3).trans (by rw [← h4]; exact b2), by simp [h4]⟩
      rcases rows_at hI hb' with ⟨g, cap, vs, hσ, hcap, hmax, hg, hl, hrow⟩ | ⟨hσ, hes⟩
      · rcases hv w X σ h2 (ρ x0) hI (hrd b (by simp)) hr with ⟨g', cap', h', hvv⟩ | ⟨h', _⟩
        · rw [hσ] at h'; simp at h'; obtain ⟨rfl, rfl⟩ := h'
          have hle := Nat.mul_le_mul_right i.size (show m ≤ cap by omega)
          have hvl : (vs.toList.take (m * i.size)).length = (es.take m).length * i.size := by
            rw [htl]; simp; omega
          have hrl : POKL w (Ex X σ) (tau pd σ) i.size (es.take m) (vs.toList.take (m * i.size)) := by
            intro k a ha
            rw [List.getElem?_take] at ha
            split at ha
            · rename_i hkm
              obtain ⟨h1, h2⟩ := hrow k a ha
              refine ⟨h1, fun j q hq => ?_⟩
              obtain ⟨v, h3, h4⟩ := h2 j q hq
              have hj : j < i.size := by rw [← h1]; exact (List.getElem?_eq_some_iff.1 hq).1
              have := Nat.mul_le_mul_right i.size (show k + 1 ≤ m from hkm)
              rw [Nat.succ_mul] at this
              exact ⟨v, by rw [List.getElem?_take, if_pos (by omega), Array.getElem?_toList]; exact h3, h4⟩
            · simp at ha
          obtain ⟨v', w', hrun, hgrew⟩ := happ ty (ρ x0) m (vs.toList.take (m * i.size)) ⟨by rw [hvl, htl], .inr ⟨g, cap, vs, hvv, hg, by omega, hmax, hl, rfl⟩⟩ hb1 hb2
          refine go hmap hrun ?_
          rcases hgrew with ⟨hv, _⟩ | ⟨g1, cap1, cur, cur', hv, hat, rfl, rfl, hcs, h1, h2', h3, h4⟩ | ⟨cap', cur, rfl, rfl, h1, h2', h3, h4⟩
          · rw [hvv] at hv; simp at hv
          · rw [hvv] at hv
            simp at hv
            obtain ⟨rfl, rfl⟩ := hv
            obtain ⟨f1, f2, f3, f4, f5⟩ := setRow_facts (w := w) (g := g) (cs := cur')
            have hm := move_inv (w' := w.setRow g cur') hI hf' hσ (e' := .row g i.size (m + ys.length) cap) rfl rfl f1 f2 f3 f4 f5 (bl := rowOf' (orB pd ps) e i.size (es.take m ++ ys)) fun hS =>
              blk_of (by simp [hm]) h1 hmax (hat.set hcs) (by rw [hcs, h3]) ((cat_rows hvl hrl hok (by rw [htl]; exact h4)).steps hS (Nat.le_refl _))
            refine ⟨_, .sl (sz := i.size) ?_, hm.1, hm.2, by simp⟩
            rw [List.getElem?_set, if_neg hbn, List.getElem?_set, if_pos rfl, if_pos]
            exact (List.getElem?_eq_some_iff.1 (fresh_of hI hf')).1
          · have := fresh_row (es.take m) _ cap' cur hvl hrl (by rw [htl]; exact h1) h2' h3 (by rw [htl]; exact h4)
            rw [htl] at this
            exact this
        · rw [hσ] at h'; simp at h'
      · subst hes
        have hm0 : m = 0 := by simpa using hm
        subst hm0
        rcases hv w X σ h2 (ρ x0) hI (hrd b (by simp)) hr with ⟨g', cap', h', _⟩ | ⟨_, hvv⟩
        · rw [hσ] at h'; simp at h'
        · obtain ⟨v', w', hrun, hgrew⟩ := happ ty (ρ x0) 0 [] ⟨by simp, .inl ⟨hvv, rfl⟩⟩ (by simpa using hb1) (by simpa using hb2)
          refine go hmap hrun ?_
          rcases hgrew with ⟨_, h0, rfl, rfl⟩ | ⟨g, cap, cur, cur', hv, _⟩ | ⟨cap, cur, rfl, rfl, h1, h2', h3, h4⟩
          · have : ys = [] := List.eq_nil_of_length_eq_zero (by omega)
            subst this
            obtain ⟨a1, a2, a3⟩ := nil_row hI hf' (orB pd ps) e i.size
            obtain ⟨b1, b2⟩ := a2.drop (σ.set nid .rownil).length b
            exact ⟨(σ.set nid .rownil).set b .dead, a1.step b2 (Nat.le_refl _), by simpa [upd] using b1, a3.trans (by simpa using b2), by simp⟩
          · rw [hvv] at hv; simp at hv
          · simp only [Nat.zero_add] at h1 h4 ⊢
            have := fresh_row [] [] cap cur (by simp) (by intro k a ha; simp at ha) (by simpa using h1) h2' h3 (by simpa using h4)
            simpa using this
    cases s with
    | nils =>
      obtain ⟨hfit, hk⟩ := bChk_sound hk
      obtain ⟨hb1, hb2⟩ := of_decide_eq_true hfit
      rw [hbytes] at hb2
      refine ⟨_, _, _, hk, fun w X σ h2 ρ d ty pos after guard hI ho hrd => ?_, by simp⟩
      have hf' : h2[nid]? = some .fresh := (hrd nid (by simp)).trans hf
      obtain ⟨hmap, hr, hr'⟩ := hos w _ σ ρ ho
      obtain ⟨news, hnl, hn1, hok, happ, _, _⟩ := hsrc w X σ h2 (ρ y0) hI (fun j hj => hrd j (by simp [hj])) hr'
      have hvv : ρ x0 = .slice none 0 0 := by
        generalize ρ x0 = v at hr
        cases hr; rfl
      obtain ⟨v', w', hrun, hgrew⟩ := happ ty (ρ x0) 0 [] ⟨by simp, .inl ⟨hvv, rfl⟩⟩ (by simpa using hb1) (by simpa using hb2)
      refine go hmap hrun ?_
      rcases hgrew with ⟨_, h0, rfl, rfl⟩ | ⟨g, cap, cur, cur', hv, _⟩ | ⟨cap, cur, rfl, rfl, h1, h2', h3, h4⟩
      · have : ys = [] := List.eq_nil_of_length_eq_zero (by omega)
        subst this
        obtain ⟨a1, a2, a3⟩ := nil_row hI hf' ps e i.size
        exact ⟨σ.set nid .rownil, a1, by simpa [upd] using a2, a3, by simp⟩
      · rw [hvv] at hv; simp at hv
      · simp only [Nat.zero_add, List.nil_append] at h1 h4 ⊢
        obtain ⟨hI', hS'⟩ := drew_step hI
        have hpok : POK w (Ex X σ) (tau ps σ) i.size ys cur := by
          intro k a ha
          obtain ⟨a1, a2⟩ := hok k a ha
          refine ⟨a1, fun j q hq => ?_⟩
          obtain ⟨v, c1, c2⟩ := a2 j q hq
          have hj : j < i.size := by rw [← a1]; exact (List.getElem?_eq_some_iff.1 hq).1
          have hkl := (List.getElem?_eq_some_iff.1 ha).1
          have := Nat.mul_le_mul_right i.size (show k + 1 ≤ ys.length from hkl)
          rw [Nat.succ_mul] at this
          refine ⟨v, ?_, c2⟩
          rw [← c1, ← h4, List.getElem?_take, if_pos (by omega), Array.getElem?_toList]
        obtain ⟨σ', c1, c2, c3, c4⟩ := new_rows hI' hf' (p := ps) (t := e) (sz := i.size) (cap := cap) (es := ys) (vs := cur) h1 h2' h3 (hpok.steps hS' (Nat.le_refl _))
        exact ⟨σ', c1, c2, hS'.trans c3, c4⟩
    | z0 =>
      have hk0 := tyK_sound hT (show tyK T u _ from hk)
      have hni : ∀ q, (teOf P u).ti ≠ .int q := fun q hq => by rw [hq] at hk0; exact hk0.elim
      have hk1 : List.rec (motive := fun _ => Prop) (K .z0 [] rd') (fun _ _ _ => bChk (fitB 0 ys.length (teOf P e).bytes) (K (.sl nid) [(nid, rowOf' ps e i.size ys)] (nid :: rd'))) ys := by
        generalize (teOf P u).ti = tu at hk0
        cases tu <;> first | exact hk0.elim | exact hk0
      have hz : ∀ (w : World) (E : Nat → Prop) (σ : Sg) (v : Value), Rep w E σ .z0 v → ∃ a, v = .slice a 0 0 := fun w E σ v hr => by
        cases hr with
        | @z0 _ a => exact ⟨a, rfl⟩
      cases hys : ys with
      | nil =>
        rw [hys] at hk1
        refine ⟨_, _, _, hk1, fun w X σ h2 ρ d ty pos after guard hI ho hrd => ?_, by simp⟩
        obtain ⟨hmap, hr, hr'⟩ := hos w _ σ ρ ho
        obtain ⟨news, hnl, hn1, hok, happ, hroomr, hzr⟩ := hsrc w X σ h2 (ρ y0) hI (fun j hj => hrd j (by simp [hj])) hr'
        obtain ⟨a, hvv⟩ := hz w _ σ _ hr
        have hrun := (hzr hni ty a (by rw [hys]; simp) (by rw [hys]; simp)).1 (by rw [hys]; rfl)
        rw [← hvv] at hrun
        refine go hmap hrun ⟨σ, ?_, hI, .refl _ _ _, rfl⟩
        rw [hvv]; exact .z0
      | cons y ys' =>
        have hne : ys.length ≠ 0 := by rw [hys]; simp
        have hk2 : bChk (fitB 0 ys.length (teOf P e).bytes) (K (.sl nid) [(nid, rowOf' ps e i.size ys)] (nid :: rd')) := by
          generalize ys = zs at hk1 hys
          subst hys
          exact hk1
        obtain ⟨hfit, hk3⟩ := bChk_sound hk2
        obtain ⟨hb1, hb2⟩ := of_decide_eq_true hfit
        rw [hbytes] at hb2
        refine ⟨_, _, _, hk3, fun w X σ h2 ρ d ty pos after guard hI ho hrd => ?_, by simp⟩
        have hf' : h2[nid]? = some .fresh := (hrd nid (by simp)).trans hf
        obtain ⟨hmap, hr, hr'⟩ := hos w _ σ ρ ho
        obtain ⟨news, hnl, hn1, hok, happ, hroomr, hzr⟩ := hsrc w X σ h2 (ρ y0) hI (fun j hj => hrd j (by simp [hj])) hr'
        have newrow : ∀ (cap : Nat) (cur : Array Value), ys.length ≤ cap → cap ≤ maxLen → cur.size = cap * i.size → cur.toList.take (ys.length * i.size) = news →
            ∃ σ', Rep (w.drew.alloc (.cells cur e)) (Ex X σ') σ' (.sl nid) (.slice (some ⟨w.heap.size, 0, none⟩) ys.length cap) ∧ Inv (w.drew.alloc (.cells cur e)) X σ' (upd [(nid, rowOf' ps e i.size ys)] h2) ∧ Step σ.length w σ (w.drew.alloc (.cells cur e)) σ' ∧ σ'.length = σ.length := by
          intro cap cur h1 h2' h3 h4
          obtain ⟨hI', hS'⟩ := drew_step hI
          have hpok : POK w (Ex X σ) (tau ps σ) i.size ys cur := by
            intro k a ha
            obtain ⟨a1, a2⟩ := hok k a ha
            refine ⟨a1, fun j q hq => ?_⟩
            obtain ⟨v, c1, c2⟩ := a2 j q hq
            have hj : j < i.size := by rw [← a1]; exact (List.getElem?_eq_some_iff.1 hq).1
            have hkl := (List.getElem?_eq_some_iff.1 ha).1
            have := Nat.mul_le_mul_right i.size (show k + 1 ≤ ys.length from hkl)
            rw [Nat.succ_mul] at this
            refine ⟨v, ?_, c2⟩
            rw [← c1, ← h4, List.getElem?_take, if_pos (by omega), Array.getElem?_toList]
          obtain ⟨σ', c1, c2, c3, c4⟩ := new_rows hI' hf' (p := ps) (t := e) (sz := i.size) (cap := cap) (es := ys) (vs := cur) h1 h2' h3 (hpok.steps hS' (Nat.le_refl _))
          exact ⟨σ', c1, c2, hS'.trans c3, c4⟩
        obtain ⟨a, hvv⟩ := hz w _ σ _ hr
        obtain ⟨cap, cur, hrun, h1, h2', h3, h4⟩ := (hzr hni ty a (by simpa using hb1) (by simpa using hb2)).2 hne
        rw [← hvv] at hrun
        exact go hmap hrun (newrow cap cur h1 h2' h3 h4)
    | sl b =>
      obtain ⟨pd, t0, q, es, hb, hk⟩ := rowsK_sound (show rowsK (nthK h) b _ from hk)
      obtain ⟨e1, hk1⟩ := eqNK_sound hk
      obtain ⟨e2, hk2⟩ := eqNK_sound hk1
      subst e1; subst e2
      obtain ⟨hfit, hk3⟩ := bChk_sound hk2
      have hk4 := catK_sound (k := fun r => K (.sl nid) [(nid, rowOf' (orB pd ps) t0 i.size r), (b, .dead)] (nid :: b :: rd')) hk3
      refine grow b es.length pd es hb (Nat.le_refl _) hfit (fun w X σ h2 v hI hrd hr => ?_) (by rw [List.take_length]; exact hk4)
      rcases rows_at hI (hrd.trans hb) with ⟨g, cap, vs, hσ, _⟩ | ⟨hσ, hes⟩
      · cases hr with
        | sl h' => rw [hσ] at h'; simp at h'; obtain ⟨rfl, rfl, rfl, rfl⟩ := h'; exact .inl ⟨_, _, hσ, rfl⟩
        | slN h' => rw [hσ] at h'; simp at h'
        | slD h' => rw [hσ] at h'; simp at h'
      · cases hr with
        | sl h' => rw [hσ] at h'; simp at h'
        | slN h' => exact .inr ⟨hσ, rfl⟩
        | slD h' => rw [hσ] at h'; simp at h'
    | ss b lo m =>
      obtain ⟨pd, t0, q, es, hb, hk⟩ := rowsK_sound (show rowsK (nthK h) b _ from hk)
      obtain ⟨e1, hk1⟩ := eqNK_sound hk
      obtain ⟨e2, hk2⟩ := eqNK_sound hk1
      subst e1; subst e2
      obtain ⟨hfit, hk3⟩ := bChk_sound hk2
      rcases bFork_sound hk3 with ⟨hroom0, hk⟩ | ⟨_, hk⟩
      · obtain ⟨hroom, hne⟩ := roomB_spec hroom0
        have hk := preK_sound (k := fun a => sufK c (lo + m + ys.length) es fun d => catK c ys d fun y => catK c a y fun r => K (.ss b lo (m + ys.length)) [(b, rowOf' (orB pd ps) t0 i.size r)] (b :: rd')) hk
        have hk := sufK_sound (k := fun d => catK c ys d fun y => catK c (es.take (lo + m)) y fun r => K (.ss b lo (m + ys.length)) [(b, rowOf' (orB pd ps) t0 i.size r)] (b :: rd')) hk
        have hk := catK_sound (k := fun y => catK c (es.take (lo + m)) y fun r => K (.ss b lo (m + ys.length)) [(b, rowOf' (orB pd ps) t0 i.size r)] (b :: rd')) hk
        have hk := catK_sound (k := fun r => K (.ss b lo (m + ys.length)) [(b, rowOf' (orB pd ps) t0 i.size r)] (b :: rd')) hk
        obtain ⟨hb1, hb2⟩ := of_decide_eq_true hfit
        rw [hbytes] at hb2
        refine ⟨_, _, _, hk, fun w X σ h2 ρ d ty pos after guard hI ho hrd => ?_, by simp⟩
        obtain ⟨hmap, hr, hr'⟩ := hos w _ σ ρ ho
        obtain ⟨news, hnl, hn1, hok, happ, hroomr, _⟩ := hsrc w X σ h2 (ρ y0) hI (fun j hj => hrd j (by simp [hj])) hr'
        have hb' : h2[b]? = some (rowOf' pd t0 i.size es) := (hrd b (by simp)).trans hb
        rcases rows_at hI hb' with ⟨g, cap, vs, hσ, hcap, hmax, hg, hl, hrow⟩ | ⟨hσ, hes⟩
        · obtain ⟨o, hvv, ho'⟩ : ∃ o, ρ x0 = .slice (some ⟨g, o, none⟩) m (cap - lo) ∧ (lo < cap → o = lo * i.size) := by
            generalize ρ x0 = v at hr
            cases hr with
            | ss h' hle ho => rw [hσ] at h'; simp at h'; obtain ⟨rfl, rfl, rfl, rfl⟩ := h'; exact ⟨_, rfl, ho⟩
            | ssN h' => rw [hσ] at h'; simp at h'
            | ssD h' => rw [hσ] at h'; simp at h'
          have hbytes2 : ys.length * i.bytes ≤ 140737488355328 := Nat.le_trans (Nat.mul_le_mul_right _ (by omega)) hb2
          by_cases hy0 : ys = []
          · subst hy0
            have hn0 : news = [] := List.eq_nil_of_length_eq_zero (by simpa using hnl)
            subst hn0
            have hrun := hroomr ty g o m (cap - lo) w (by simp at hroom ⊢; omega) (by simp) (by simp) rfl
            rw [← hvv] at hrun
            refine go hmap hrun ⟨σ, ?_, ?_, .refl _ _ _, rfl⟩
            · simp only [List.length_nil, Nat.add_zero]
              exact .ss hσ (by simp at hroom; omega) ho'
            · have e : es.take (lo + m) ++ ([] ++ es.drop (lo + m + ([] : List (List SV)).length)) = es := by simp
              rw [e, upd_one]
              refine write_inv hI hσ rfl rfl rfl rfl rfl (fun _ _ => rfl) (blk_of rfl hcap hmax hg hl ?_)
              intro k a ha
              obtain ⟨a1, a2⟩ := hrow k a ha
              exact ⟨a1, fun j q hq => by obtain ⟨v, c1, c2, c3⟩ := a2 j q hq; exact ⟨v, c1, tau_up (fun hq => (orB_false hq).1) c2, c3⟩⟩
          · have hyl : 0 < ys.length := List.length_pos_iff.2 hy0
            have ho' := ho' (by omega)
            subst ho'
            have hfit2 : (lo + m) * i.size + news.length ≤ vs.size := by
              rw [hnl, hl, ← Nat.add_mul]; exact Nat.mul_le_mul_right _ (by omega)
            have hst := run_storeCells_fr (P := P) g ((lo + m) * i.size) t0 news 0 vs w hg (by simpa using hfit2) hn1
            simp only [Nat.add_zero] at hst
            have hadd : ((⟨g, lo * i.size, none⟩ : Addr).add (m * i.size)) = ⟨g, (lo + m) * i.size, none⟩ := by rw [addr_add, Nat.add_mul]
            have hrun := hroomr ty g (lo * i.size) m (cap - lo) _ (by omega) (by omega) hbytes2 (by rw [hadd]; exact hst)
            rw [← hvv] at hrun
            obtain ⟨f1, f2, f3, f4, f5⟩ := setRow_facts (w := w) (g := g) (cs := (vs.toList.take ((lo + m) * i.size) ++ news ++ vs.toList.drop ((lo + m) * i.size + news.length)).toArray)
            have hS := write_step hσ rfl f1 f2 f3 f4 f5
            refine go hmap hrun ⟨σ, .ss (σ := σ) hσ (by omega) (fun _ => rfl), ?_, hS, rfl⟩
            rw [upd_one]
            have eg : ∀ k, (vs.toList.take ((lo + m) * i.size) ++ news ++ vs.toList.drop ((lo + m) * i.size + news.length)).toArray[k]? = if (lo + m) * i.size ≤ k ∧ k < (lo + m) * i.size + news.length then news[k - (lo + m) * i.size]? else vs[k]? := fun k => by
              have := put_get vs.toList ((lo + m) * i.size) news (by simp; omega) k
              simp only [Array.getElem?_toList] at this
              rw [List.getElem?_toArray, List.append_assoc]
              exact this
            refine write_inv hI hσ rfl f1 f2 f3 f4 f5 (blk_of (by simp; omega) hcap hmax (hg.set (by simp; omega)) (by simp; omega) fun k a ha => ?_)
            have hlk : (es.take (lo + m)).length = lo + m := by simp; omega
            rw [List.getElem?_append, hlk] at ha
            have two : ∀ {z : Nat} {a b : Nat}, a < b → a * z + z ≤ b * z := fun {z a b} h => by
              have := Nat.mul_le_mul_right z (show a + 1 ≤ b from h); rw [Nat.succ_mul] at this; exact this
            by_cases h1 : k < lo + m
            · rw [if_pos h1, List.getElem?_take, if_pos h1] at ha
              obtain ⟨a1, a2⟩ := hrow k a ha
              refine ⟨a1, fun j q hq => ?_⟩
              obtain ⟨v, c1, c2, c3⟩ := a2 j q hq
              have hj : j < i.size := by rw [← a1]; exact (List.getElem?_eq_some_iff.1 hq).1
              refine ⟨v, ?_, tau_up (fun hq => (orB_false hq).1) (tau_step c2 hS (Nat.le_refl _)), c3⟩
              have := two (z := i.size) h1
              rw [eg, if_neg (by omega), c1]
            · rw [if_neg h1, List.getElem?_append] at ha
              by_cases h2 : k - (lo + m) < ys.length
              · rw [if_pos h2] at ha
                obtain ⟨a1, a2⟩ := hok _ a ha
                refine ⟨a1, fun j q hq => ?_⟩
                obtain ⟨v, c1, c2, c3⟩ := a2 j q hq
                have hj : j < i.size := by rw [← a1]; exact (List.getElem?_eq_some_iff.1 hq).1
                refine ⟨v, ?_, tau_up (fun hq => (orB_false hq).2) (tau_step c2 hS (Nat.le_refl _)), c3⟩
                have e3 : k * i.size = (lo + m) * i.size + (k - (lo + m)) * i.size := by rw [← Nat.add_mul]; congr 1; omega
                have := two (z := i.size) h2
                rw [eg, if_pos ⟨by omega, by rw [hnl]; omega⟩, show k * i.size + j - (lo + m) * i.size = (k - (lo + m)) * i.size + j by omega]
                exact c1
              · rw [if_neg h2, List.getElem?_drop] at ha
                have ek : lo + m + ys.length + (k - (lo + m) - ys.length) = k := by omega
                rw [ek] at ha
                obtain ⟨a1, a2⟩ := hrow k a ha
                refine ⟨a1, fun j q hq => ?_⟩
                obtain ⟨v, c1, c2, c3⟩ := a2 j q hq
                have hj : j < i.size := by rw [← a1]; exact (List.getElem?_eq_some_iff.1 hq).1
                refine ⟨v, ?_, tau_up (fun hq => (orB_false hq).1) (tau_step c2 hS (Nat.le_refl _)), c3⟩
                have e3 : (lo + m) * i.size + news.length ≤ k * i.size := by
                  rw [hnl, ← Nat.add_mul]; exact Nat.mul_le_mul_right _ (by omega)
                rw [eg, if_neg (by omega), c1]
        · exact absurd hes hne
      · obtain ⟨e0, hk0⟩ := eqNK_sound hk
        obtain ⟨hm, hk00⟩ := leNK_sound hk0
        obtain ⟨hes1, hk01⟩ := leNK_sound hk00
        have hk5 := preK_sound (k := fun a => catK c a ys fun r => K (.sl nid) [(nid, rowOf' (orB pd ps) t0 i.size r), (b, .dead)] (nid :: b :: rd')) hk01
        have hk6 := catK_sound (k := fun r => K (.sl nid) [(nid, rowOf' (orB pd ps) t0 i.size r), (b, .dead)] (nid :: b :: rd')) hk5
        subst e0
        refine grow b m pd es hb hm hfit (fun w X σ h2 v hI hrd hr => ?_) hk6
        rcases rows_at hI (hrd.trans hb) with ⟨g, cap, vs, hσ, hcap, _⟩ | ⟨hσ, hes⟩
        · cases hr with
          | @ss _ _ g' sz' n' cap' _ _ o h' hle ho =>
            rw [hσ] at h'; simp at h'; obtain ⟨rfl, rfl, rfl, rfl⟩ := h'
            refine .inl ⟨_, _, hσ, ?_⟩
            rw [ho (by omega)]; simp
          | ssN h' => rw [hσ] at h'; simp at h'
          | ssD h' => rw [hσ] at h'; simp at h'
        · cases hr with
          | ss h' => rw [hσ] at h'; simp at h'
          | ssN h' => exact .inr ⟨hσ, rfl⟩
          | ssD h' => rw [hσ] at h'; simp at h'
    | _ => exact hk.elim
  | _ => exact hk.elim
theorem append_okV (hT : TabOK P T) {c : Bool} {F : Fr} {h : Hp} {nid : Nat} (hf : h[nid]? = some .fresh) {xs : Array Operand} {ats : Array TypeId} {x0 y0 : Operand} {t u : TypeId} (hxs : xs.toList = [x0, y0]) (hats : ats.toList = [t, u]) {K : Kop}
    (hk : evK F x0 fun s => evK F y0 fun x => appV T c (nthK h) nid t u s x K) : OpGood P F h (.call ⟨.builtin .append, xs, ats⟩) K := by
  obtain ⟨s, hk, hs⟩ := evK_sound hk
  obtain ⟨x, hk, hx⟩ := evK_sound hk
  exact append_core hT hf hxs hats hs hx hk

/-! ### one element behind the end of what has been cut -/
noncomputable def tailB (lo m : Nat) (es : List (List SV)) : Bool := Bool.rec (motive := fun _ => Bool) false (Bool.rec (motive := fun _ => Bool) false (Nat.ble 1 lo) (Nat.beq lo es.length)) (Nat.beq m 0)
theorem tailB_spec {lo m : Nat} {es : List (List SV)} (h : tailB lo m es = true) : m = 0 ∧ lo = es.length ∧ 1 ≤ lo := by
  unfold tailB at h
  cases h1 : Nat.beq m 0 with
  | false => rw [h1] at h; simp at h
  | true =>
    cases h2 : Nat.beq lo es.length with
    | false => rw [h1, h2] at h; simp at h
    | true =>
      rw [h1, h2] at h
      exact ⟨Nat.eq_of_beq_eq_true h1, Nat.eq_of_beq_eq_true h2, Nat.le_of_ble_eq_true h⟩
noncomputable def tailV (T : Tab) (c : Bool) (hg : HgF) (nid : Nat) (t u : TypeId) (x : SV) (b : Nat) (t0 : TypeId) (q : Nat) (K : Kop) : Prop :=
  tyK T t fun te => match te.ti with
    | .slice e => tyK T e fun ee => zeroK ee.zero fun zs => leNK 1 ee.size (tyK T u fun tu => match tu.ti with
      | .slice _ => srcV T c hg u e ee.size zs x fun _ ys rd => bChk (Nat.beq ys.length 1) (eqNK t0 e (eqNK q ee.size (bChk (fitB 0 ys.length ee.bytes) (K (.tl nid 1) [(nid, .tail e ee.size ys), (b, .dead)] (nid :: b :: rd)))))
      | _ => False)
    | _ => False
noncomputable def appTV (T : Tab) (c : Bool) (hg : HgF) (nid : Nat) (t u : TypeId) (s x : SV) (K : Kop) : Prop :=
  match s with
  | .ss b lo m => rowsK hg b fun _ t0 q es => bFork (tailB lo m es) (tailV T c hg nid t u x b t0 q K) (appV T c hg nid t u (.ss b lo m) x K)
  | s => appV T c hg nid t u s x K
theorem tau_all {p : Bool} {w : World} {E : Nat → Prop} {σ : Sg} {s : SV} {v : Value} (h : Rep w E (tau p σ) s v) : Rep w E σ s v := by
  cases p with
  | true => exact h
  | false => exact rep0 h
theorem appT_okV (hT : TabOK P T) {c : Bool} {F : Fr} {h : Hp} {nid : Nat} (hf : h[nid]? = some .fresh) {xs : Array Operand} {ats : Array TypeId} {x0 y0 : Operand} {t u : TypeId} (hxs : xs.toList = [x0, y0]) (hats : ats.toList = [t, u]) {K : Kop}
    (hk : evK F x0 fun s => evK F y0 fun x => appTV T c (nthK h) nid t u s x K) : OpGood P F h (.call ⟨.builtin .append, xs, ats⟩) K := by
  obtain ⟨s, hk, hs⟩ := evK_sound hk
  obtain ⟨x, hk, hx⟩ := evK_sound hk
  cases s with
  | ss b lo m =>
    have hk : rowsK (nthK h) b (fun _ t0 q es => bFork (tailB lo m es) (tailV T c (nthK h) nid t u x b t0 q K) (appV T c (nthK h) nid t u (.ss b lo m) x K)) := hk
    obtain ⟨pd, t0, q, es, hb, hk⟩ := rowsK_sound hk
    rcases bFork_sound hk with ⟨ht, hk9⟩ | ⟨_, hk⟩
    · obtain ⟨hm0, hlo, hlo1⟩ := tailB_spec ht
      clear ht
      subst hm0
      have hats : ats = #[t, u] := by rw [← Array.toArray_toList (xs := ats), hats]
      subst hats
      have hos : ∀ (w : World) (E : Nat → Prop) (σ : Sg) (ρ : Operand → Value), (∀ z ∈ (Op.call ⟨.builtin .append, xs, #[t, u]⟩).operands.toList, OpnRep w E σ F ρ z) → xs.toList.map ρ = [ρ x0, ρ y0] ∧ Rep w E σ (.ss b lo 0) (ρ x0) ∧ Rep w E σ x (ρ y0) := fun w E σ ρ ho => by
        refine ⟨by rw [hxs]; rfl, hs w E σ ρ (ho x0 ?_), hx w E σ ρ (ho y0 ?_)⟩
        · simp [Op.operands, Call.operands, hxs]
        · simp [Op.operands, Call.operands, hxs]
      unfold tailV at hk9
      have hk := tyK_sound hT hk9
      generalize hti : (teOf P t).ti = ti at hk
      cases ti with
      | slice e =>
        replace hk := tyK_sound hT (show tyK T e _ from hk)
        obtain ⟨i, z, hi, hsize, hbytes, hz, hz1, hz3, hzsz, hk⟩ := info_of_zero hk
        obtain ⟨hpos, hk⟩ := leNK_sound hk
        have hut := und_slice (ti_of hti (by simp)).1
        rw [hsize] at hpos hk
        rw [hz] at hk
        have hk := tyK_sound hT (show tyK T u _ from hk)
        generalize htu : (teOf P u).ti = tu at hk
        cases tu with
        | slice eu =>
          obtain ⟨ps, ys, rd', hk, hsrc⟩ := srcVR_sound hT hut hi hz1 hz3 hzsz hpos hk
          obtain ⟨hy1, hk1⟩ := bChk_sound hk
          have hy1 := Nat.eq_of_beq_eq_true hy1
          obtain ⟨e1, hk2⟩ := eqNK_sound hk1
          obtain ⟨e2, hk3⟩ := eqNK_sound hk2
          obtain ⟨hfit, hk4⟩ := bChk_sound hk3
          clear hk hk1 hk2 hk3
          subst e1; subst e2
          obtain ⟨hb1, hb2⟩ := of_decide_eq_true hfit
          rw [hbytes] at hb2
          simp only [Nat.zero_add] at hb1 hb2
          refine ⟨_, _, _, hk4, fun w X σ h2 ρ d ty pos after guard hI ho hrd => ?_, by simp⟩
          obtain ⟨hmap, hr, hr'⟩ := hos w _ σ ρ ho
          have go : ∀ {w' : World} {r : SV} {ws : Ws} {v' : Value}, (Builtin.append_ #[t, u] ty #[ρ x0, ρ y0]).run P w = .ok v' w' →
              (∃ σ', Rep w' (Ex X σ') σ' r v' ∧ Inv w' X σ' (upd ws h2) ∧ Step σ.length w σ w' σ' ∧ σ'.length = σ.length) → OpRes P (execOp ρ ⟨d, .call ⟨.builtin .append, xs, #[t, u]⟩, ty, pos, after, guard⟩) w X σ h2 r ws := by
            intro w' r ws v' hr res
            exact opres_val (m := Builtin.append_ #[t, u] ty #[ρ x0, ρ y0]) (by rw [exec_builtin, map_of_list hmap]; rfl) hr res
          obtain ⟨news, hnl, hn1, hok, _, hroomr, hzero⟩ := hsrc w X σ h2 (ρ y0) hI (fun j hj => hrd j (by simp [hj])) hr'
          have hf' : h2[nid]? = some .fresh := (hrd nid (by simp)).trans hf
          have hb' : h2[b]? = some (rowOf' pd t0 i.size es) := (hrd b (by simp)).trans hb
          have hbn : b ≠ nid := by
            rintro rfl; rw [hb'] at hf'; cases pd <;> simp [rowOf'] at hf'
          rw [hy1, Nat.one_mul] at hnl
          rcases rows_at hI hb' with ⟨g, cap, vs, hσ, hcap, hmax, hg, hl, hrow⟩ | ⟨hσ, hes⟩
          · obtain ⟨o, hvv, ho'⟩ : ∃ o, ρ x0 = .slice (some ⟨g, o, none⟩) 0 (cap - lo) ∧ (lo < cap → o = lo * i.size) := by
              generalize ρ x0 = v at hr
              cases hr with
              | ss h' hle ho => rw [hσ] at h'; simp at h'; obtain ⟨rfl, rfl, rfl, rfl⟩ := h'; exact ⟨_, rfl, ho⟩
              | ssN h' => rw [hσ] at h'; simp at h'
              | ssD h' => rw [hσ] at h'; simp at h'
            by_cases hroom : lo < cap
            · have ho' := ho' hroom
              subst ho'
              have hle1 : lo * i.size + i.size ≤ cap * i.size := by
                have := Nat.mul_le_mul_right i.size (show lo + 1 ≤ cap from hroom); rw [Nat.succ_mul] at this; exact this
              have hfit2 : lo * i.size + 0 + news.length ≤ vs.size := by rw [hnl, hl]; omega
              have hst := run_storeCells_fr (P := P) g (lo * i.size) t0 news 0 vs w hg hfit2 hn1
              simp only [Nat.add_zero] at hst
              have hadd : ((⟨g, lo * i.size, none⟩ : Addr).add (0 * i.size)) = ⟨g, lo * i.size, none⟩ := by rw [addr_add]; simp
              have hrun := hroomr ty g (lo * i.size) 0 (cap - lo) _ (by omega) hb1 hb2 (by rw [hadd]; exact hst)
              rw [← hvv] at hrun
              obtain ⟨f1, f2, f3, f4, f5⟩ := setRow_facts (w := w) (g := g) (cs := (vs.toList.take (lo * i.size) ++ news ++ vs.toList.drop (lo * i.size + news.length)).toArray)
              have eg : ∀ k, (vs.toList.take (lo * i.size) ++ news ++ vs.toList.drop (lo * i.size + news.length)).toArray[k]? = if lo * i.size ≤ k ∧ k < lo * i.size + news.length then news[k - lo * i.size]? else vs[k]? := fun k => by
                have := put_get vs.toList (lo * i.size) news (by simp; omega) k
                simp only [Array.getElem?_toList] at this
                rw [List.getElem?_toArray, List.append_assoc]
                exact this
              have hsz : (vs.toList.take (lo * i.size) ++ news ++ vs.toList.drop (lo * i.size + news.length)).toArray.size = vs.size := by simp; omega
              have hm := move_inv (w' := w.setRow g (vs.toList.take (lo * i.size) ++ news ++ vs.toList.drop (lo * i.size + news.length)).toArray) hI hf' hσ (e' := .row g i.size (lo + 1) cap) rfl rfl f1 f2 f3 f4 f5 (bl := .tail t0 i.size ys) fun hS =>
                ⟨rfl, by omega, by omega, hmax, _, hg.set hsz, by rw [hsz, hl], fun k a ha => by
                  obtain ⟨a1, a2⟩ := hok k a ha
                  have hk0 : k = 0 := by have := (List.getElem?_eq_some_iff.1 ha).1; omega
                  subst hk0
                  refine ⟨a1, fun j q hq => ?_⟩
                  obtain ⟨v, c1, c2, c3⟩ := a2 j q hq
                  have hj : j < i.size := by rw [← a1]; exact (List.getElem?_eq_some_iff.1 hq).1
                  refine ⟨v, ?_, tau_all (tau_step c2 hS (Nat.le_refl _)), c3⟩
                  have ei : (lo + 1 - ys.length + 0) * i.size + j = lo * i.size + j := by rw [hy1]; simp
                  rw [ei, eg, if_pos ⟨by omega, by omega⟩, show lo * i.size + j - lo * i.size = 0 * i.size + j by omega]
                  exact c1⟩
              refine go hrun ⟨_, ?_, hm.1, hm.2, by simp⟩
              have e3 : cap - lo = cap - (lo + 1 - 1) := by omega
              rw [hy1, e3]
              refine .tl (n := lo + 1) (cap := cap) (sz := i.size) ?_ (by omega) (by simp)
              rw [List.getElem?_set, if_neg hbn, List.getElem?_set, if_pos rfl, if_pos]
              exact (List.getElem?_eq_some_iff.1 (fresh_of hI hf')).1
            · have hc0 : cap - lo = 0 := by omega
              obtain ⟨cap', cur, hrun, h1, h2', h3, h4⟩ := (hzero (by rw [htu]; simp) ty (some ⟨g, o, none⟩) hb1 hb2).2 (by omega)
              rw [hc0] at hvv
              rw [← hvv] at hrun
              obtain ⟨hI', hS'⟩ := drew_step hI
              have hS2 := alloc_step (w' := w.drew.alloc (.cells cur t0)) hI' hf' (e := .row w.drew.heap.size i.size ys.length cap') rfl rfl rfl rfl rfl
              have hI2 := alloc_inv (w' := w.drew.alloc (.cells cur t0)) hI' hf' (e := .row w.drew.heap.size i.size ys.length cap') (b := .tail t0 i.size ys) rfl rfl rfl rfl rfl
                ⟨rfl, Nat.le_refl _, h1, h2', cur, RowAt.of (heap_alloc_new w.drew _), h3, fun k a ha => by
                  obtain ⟨a1, a2⟩ := hok k a ha
                  have hk0 : k < ys.length := (List.getElem?_eq_some_iff.1 ha).1
                  refine ⟨a1, fun j q hq => ?_⟩
                  obtain ⟨v, c1, c2, c3⟩ := a2 j q hq
                  have hj : j < i.size := by rw [← a1]; exact (List.getElem?_eq_some_iff.1 hq).1
                  refine ⟨v, ?_, tau_all (tau_step (tau_step c2 hS' (Nat.le_refl _)) hS2 (Nat.le_refl _)), c3⟩
                  have ei : (ys.length - ys.length + k) * i.size + j = k * i.size + j := by simp
                  rw [ei, ← c1, ← h4, List.getElem?_take, if_pos, Array.getElem?_toList]
                  have := Nat.mul_le_mul_right i.size (show k + 1 ≤ ys.length from hk0)
                  rw [Nat.succ_mul] at this
                  omega⟩
              obtain ⟨b1, b2⟩ := hI2.drop (σ.set nid (.row w.drew.heap.size i.size ys.length cap')).length b
              refine go hrun ⟨_, ?_, b1, (hS'.trans hS2).trans (by simpa using b2), by simp⟩
              have e3 : cap' = cap' - (ys.length - 1) := by omega
              rw [hy1] at e3 ⊢
              rw [e3]
              refine .tl (n := 1) (cap := cap') (sz := i.size) ?_ (by omega) (by simp)
              rw [List.getElem?_set, if_neg hbn, List.getElem?_set, if_pos rfl, if_pos]
              · rfl
              · exact (List.getElem?_eq_some_iff.1 (fresh_of hI hf')).1
          · subst hes; simp at hlo; omega
        | _ => exact hk.elim
      | _ => exact hk.elim
    · exact append_core hT hf hxs hats hs hx hk
  | _ => exact append_core hT hf hxs hats hs hx hk
end
end Go.Sx

/- New rows, rows of zeros, conversions. No statement of the seat is proved here. -/
namespace Go.Sx
section
variable {P : Program} {T : Tab}

/-- Do some of a row's cells hang on blocks? -/
noncomputable def pRows (es : List (List SV)) : Bool := List.rec (motive := fun _ => Bool) false (fun e _ ih => pCells ih e) es
theorem pRows_false (es : List (List SV)) : pRows es = false → ∀ e ∈ es, ∀ s ∈ e, FreeSV s := by
  induction es with
  | nil => intro _ e he; simp at he
  | cons e es ih =>
    intro h e' he'
    obtain ⟨h1, h2⟩ := pCells_false (show pCells (pRows es) e = false from h)
    rcases List.mem_cons.1 he' with rfl | he'
    · exact h2
    · exact ih h1 e' he'
theorem POK.kind {w : World} {E : Nat → Prop} {σ : Sg} {sz : Nat} {es : List (List SV)} {vs : Array Value} (h : POK w E σ sz es vs) : POK w E (tau (pRows es) σ) sz es vs := by
  cases hp : pRows es with
  | true => exact h
  | false =>
    have hf := pRows_false es hp
    exact fun i e he => ⟨(h i e he).1, fun j s hs => by
      obtain ⟨v, a, b, c⟩ := (h i e he).2 j s hs
      exact ⟨v, a, hf e (List.mem_of_getElem? he) s (List.mem_of_getElem? hs) _ _ _ _ _ b, c⟩⟩

/-! ### literals -/
noncomputable def buildV (T : Tab) (ev : EvF) (nid : Nat) (t : TypeId) (n : Nat) (ps : Array (Nat × Operand)) (K : Kop) : Prop :=
  tyK T t fun te => match te.ti with
    | .slice e => tyK T e fun ee => zeroK ee.zero fun z => leNK (n * ee.size) 16777216 (leNK 1 ee.size (repK n z fun es => elemsP ev ee.size ps.toList es fun es => K (.sl nid) [(nid, rowOf' (pRows es) e ee.size es)] [nid]))
    | _ => False
theorem buildV_ok (hT : TabOK P T) {F : Fr} {h : Hp} {nid : Nat} (hf : h[nid]? = some .fresh) {t : TypeId} {n : Nat} {ps : Array (Nat × Operand)} {K : Kop} (hk : buildV T (evK F) nid t n ps K) : OpGood P F h (.buildSlice t n ps) K := by
  replace hk := tyK_sound hT (show tyK T t _ from hk)
  generalize hti : (teOf P t).ti = ti at hk
  cases ti with
  | slice e =>
    replace hk := tyK_sound hT (show tyK T e _ from hk)
    obtain ⟨i, z, hi, hsize, _, hz, hz1, hz3, hzsz, hk⟩ := info_of_zero hk
    obtain ⟨hsmall, hk⟩ := leNK_sound hk
    obtain ⟨hpos, hk⟩ := leNK_sound hk
    replace hk := repK_sound hk
    obtain ⟨es, hk, hlen, hb⟩ := elemsP_sound ps.toList hk
    have hu := und_slice (ti_of hti (by simp)).1
    refine ⟨_, _, _, hk, fun w X σ h2 ρ d ty pos after guard hI ho hrd => ?_, by simp⟩
    have hf' : h2[nid]? = some .fresh := (hrd nid (by simp)).trans hf
    rw [hsize] at hb hsmall hpos ⊢
    obtain ⟨vs, hfill, hl, hrow⟩ := hb w (Ex X σ) σ ρ ((Array.range (n * i.size)).map (z.cells[· % z.cells.size]!)) (fun p hp => ho p.2 (by simp only [Op.operands, List.mem_map]; exact ⟨p, hp, rfl⟩)) (by simp)
      (by rw [hz]; exact (zeros_row hzsz hz3).p)
    have hl' : es.length = n := by rw [hlen]; simp
    have hrun : (Instr.buildSlice t n (ps.map fun (i, x) => (i, ρ x))).run P w = .ok (.slice (some ⟨w.heap.size, 0, none⟩) n n) (w.alloc (.cells vs e)) := by
      have e2 : (ps.map fun (i, x) => (i, ρ x)).toList = ps.toList.map fun p => (p.1, ρ p.2) := by simp
      by_cases hn0 : n = 0
      · subst hn0
        have hr0 : (Array.range (0 * i.size)).map (z.cells[· % z.cells.size]!) = #[] := Array.eq_empty_of_size_eq_zero (by simp)
        rw [hr0] at hfill
        have hr1 : ∀ zero : Array Value, (Array.range 0).map (zero[· % zero.size]!) = #[] := fun _ => Array.eq_empty_of_size_eq_zero (by simp)
        simp only [Instr.buildSlice, Sem.run_bind, run_underlying' hu, Result.andThen_ok, run_sizeOf hi, Nat.zero_mul, hr1, e2, hfill]
        rfl
      · refine run_buildSlice w t e n _ vs i z hu hi hz1 (by simp; omega) (by have := Nat.mul_pos (Nat.pos_of_ne_zero hn0) hpos; omega) ?_
        rw [e2]; exact hfill
    unfold OpRes DoneS
    rw [show execOp ρ ⟨d, .buildSlice t n ps, ty, pos, after, guard⟩ = (do pure (.value (← Instr.buildSlice t n (ps.map fun (i, x) => (i, ρ x))))) from rfl, run_val hrun]
    have := new_rows hI hf' (p := pRows es) (t := e) (sz := i.size) (cap := n) (es := es) (vs := vs) (by omega) (by simp only [maxLen]; have := Nat.le_mul_of_pos_right n hpos; omega) (by rw [hl, hl']) hrow.kind
    rw [hl'] at this
    exact this
  | _ => exact hk.elim

/-! ### rows of zeros -/
noncomputable def repC {α : Type} (c : Bool) (n : Nat) (x : α) (k : List α → Prop) : Prop := Bool.rec (motive := fun _ => Prop) (k (List.replicate n x)) (natF n fun n => repK n x k) c
theorem repC_sound {α : Type} {c : Bool} {n : Nat} {x : α} {k : List α → Prop} (h : repC c n x k) : k (List.replicate n x) := by
  cases c with
  | true => exact repK_sound (natF_sound (k := fun n => repK n x k) h)
  | false => exact h
noncomputable def makeV (T : Tab) (c : Bool) (nid : Nat) (t : TypeId) (n m : SV) (K : Kop) : Prop :=
  tyK T t fun te => match te.ti with
    | .slice e => tyK T e fun ee => zeroK ee.zero fun z => match n, m with
      | .int _ n, .int _ m => bChk (decide (m = n ∧ 0 ≤ n ∧ n * ee.bytes ≤ 281474976710656 ∧ n ≤ 9223372036854775807 ∧ 0 < ee.size)) (repC c n.toNat z fun r => K (.sl nid) [(nid, .row e ee.size r)] [nid])
      | _, _ => False
    | _ => False
theorem zeroK_det (z : List SV) : Det (zeroK z) := fun k h => by
  cases z with
  | nil => exact ⟨_, h, fun _ h => h⟩
  | cons x xs => cases x <;> first | exact h.elim | exact ⟨_, h, fun _ h => h⟩
theorem make_okV (hT : TabOK P T) {c : Bool} {F : Fr} {h : Hp} {nid : Nat} (hf : h[nid]? = some .fresh) {t : TypeId} {x y : Operand} {K : Kop} (hk : evK F x fun n => evK F y fun m => makeV T c nid t n m K) : OpGood P F h (.makeSlice t x y) K := by
  refine makeSlice_ok hT hf ?_
  obtain ⟨sx, hk, hx⟩ := evK_det F x _ hk
  obtain ⟨sy, hk, hy⟩ := evK_det F y _ hk
  obtain ⟨te, hk, ht⟩ := tyK_det T t _ (show tyK T t _ from hk)
  refine ht _ ?_
  cases hti : te.ti with
  | slice e =>
    rw [hti] at hk
    obtain ⟨ee, hk, he⟩ := tyK_det T e _ (show tyK T e _ from hk)
    obtain ⟨z, hk, hz⟩ := zeroK_det ee.zero _ hk
    simp only
    refine he _ (hz _ (hx _ (hy _ ?_)))
    cases sx with
    | int q1 n => cases sy with
      | int q2 m =>
        obtain ⟨hc, hk⟩ := bChk_sound (show bChk _ _ from hk)
        exact ⟨of_decide_eq_true hc, repC_sound (k := fun r => K (.sl nid) [(nid, .row e ee.size r)] [nid]) hk⟩
      | _ => exact hk.elim
    | _ => cases sy <;> exact hk.elim
  | _ => rw [hti] at hk; exact hk.elim

/-! ### clear of a row -/
noncomputable def clrSlV (T : Tab) (c : Bool) (hg : HgF) (t : TypeId) (m : SV) (K : Kop) : Prop :=
  tyK T t fun te => match te.ti with
    | .slice e => tyK T e fun ee => zeroK ee.zero fun z => (match m with
      | .nils => K (.tup []) [] []
      | .z0 => K (.tup []) [] []
      | .ss b lo n => rowsK hg b fun p t0 q es => eqNK q ee.size (bChk (Nat.ble (lo + n) es.length) (repC c n z fun r => preK c lo es fun a => sufK c (lo + n) es fun d => catK c r d fun y => catK c a y fun es' => K (.tup []) [(b, rowOf' p t0 q es')] [b]))
      | _ => False)
    | _ => False
theorem clrSl_okV (hT : TabOK P T) {c : Bool} {F : Fr} {h : Hp} {t : TypeId} {ats : Array TypeId} {xs : Array Operand} {x : Operand} (hats : ats.toList = t :: ats.toList.tail) (hxs : xs.toList = [x]) {K : Kop}
    (hk : evK F x fun m => clrSlV T c (nthK h) t m K) : OpGood P F h (.call ⟨.builtin .clear, xs, ats⟩) K := by
  obtain ⟨m, hk, hm⟩ := evK_sound hk
  replace hk := tyK_sound hT (show tyK T t _ from hk)
  generalize hti : (teOf P t).ti = ti at hk
  have hx0 : ∀ ρ : Operand → Value, xs.map ρ = #[ρ x] := fun ρ => by
    have : (xs.map ρ).toList = [ρ x] := by rw [Array.toList_map, hxs]; rfl
    rw [← Array.toArray_toList (xs := xs.map ρ), this]
  have ha0 : ats[0]? = some t := by rw [← Array.getElem?_toList, hats]; rfl
  have hmx : x ∈ (Op.call ⟨.builtin .clear, xs, ats⟩).operands.toList := by simp [Op.operands, Call.operands]; rw [← Array.mem_toList_iff, hxs]; simp
  have hex : ∀ (ρ : Operand → Value) (d : Option Tmp) (ty : TypeId) (pos : String) (after : Array Edge) (guard : Option (Nat × Bool)),
      execOp ρ ⟨d, .call ⟨.builtin .clear, xs, ats⟩, ty, pos, after, guard⟩ = (do pure (Next.value (← Builtin.clear_ ats ty #[ρ x])) : Sem Next) := fun ρ d ty pos after guard => by
    rw [exec_builtin, hx0]; rfl
  cases ti with
  | slice e =>
    have hu := und_slice (ti_of hti (by simp)).1
    replace hk := tyK_sound hT (show tyK T e _ from hk)
    obtain ⟨i, z, hi, hsize, hbytes, hz, hz1, hz3, hzsz, hk⟩ := info_of_zero hk
    have empty : (∀ (w : World) (E : Nat → Prop) (σ : Sg) (v : Value), Rep w E σ m v → ∃ a c, v = .slice a 0 c) → K (.tup []) [] [] → OpGood P F h (.call ⟨.builtin .clear, xs, ats⟩) K := by
      intro hv hk
      refine ⟨_, _, _, hk, fun w X σ h2 ρ d ty pos after guard hI ho hrd => ?_, by simp⟩
      obtain ⟨a, c', hva⟩ := hv w _ σ _ (hm w _ σ ρ (ho x hmx))
      refine opres_val (hex ρ d ty pos after guard) (v := .tuple #[]) (w' := w) ?_ ⟨σ, rep_tup0, hI, .refl _ _ _, rfl⟩
      cases a with
      | none => simp [Builtin.clear_, ha0, run_underlying' hu, hva]
      | some a => simp [Builtin.clear_, ha0, run_underlying' hu, hva]
    cases m with
    | nils => exact empty (fun w E σ v hr => by cases hr; exact ⟨_, _, rfl⟩) hk
    | z0 => exact empty (fun w E σ v hr => by cases hr; exact ⟨_, _, rfl⟩) hk
    | ss b lo n =>
      obtain ⟨p, t0, q, es, hb, hk⟩ := rowsK_sound (show rowsK (nthK h) b _ from hk)
      obtain ⟨hq, hk1⟩ := eqNK_sound hk
      obtain ⟨hfit, hk2⟩ := bChk_sound hk1
      have hfit := Nat.le_of_ble_eq_true hfit
      rw [hsize] at hq
      subst hq
      have hk3 := repC_sound (k := fun r => preK c lo es fun a => sufK c (lo + n) es fun d => catK c r d fun y => catK c a y fun es' => K (.tup []) [(b, rowOf' p t0 i.size es')] [b]) hk2
      have hk4 := preK_sound (k := fun a => sufK c (lo + n) es fun d => catK c (List.replicate n (teOf P e).zero) d fun y => catK c a y fun es' => K (.tup []) [(b, rowOf' p t0 i.size es')] [b]) hk3
      have hk5 := sufK_sound (k := fun d => catK c (List.replicate n (teOf P e).zero) d fun y => catK c (es.take lo) y fun es' => K (.tup []) [(b, rowOf' p t0 i.size es')] [b]) hk4
      have hk6 := catK_sound (k := fun y => catK c (es.take lo) y fun es' => K (.tup []) [(b, rowOf' p t0 i.size es')] [b]) hk5
      have hk7 := catK_sound (k := fun es' => K (.tup []) [(b, rowOf' p t0 i.size es')] [b]) hk6
      rw [hz] at hk7
      refine ⟨_, _, _, hk7, fun w X σ h2 ρ d ty pos after guard hI ho hrd => ?_, by simp⟩
      have hb' : h2[b]? = some (rowOf' p t0 i.size es) := (hrd b (by simp)).trans hb
      have hr := hm w _ σ ρ (ho x hmx)
      rcases rows_at hI hb' with ⟨g, cap, vs, hσ, hcap, hmax, hg, hl, hrow⟩ | ⟨hσ, hes⟩
      · obtain ⟨o, hvv, ho'⟩ : ∃ o, ρ x = .slice (some ⟨g, o, none⟩) n (cap - lo) ∧ (lo < cap → o = lo * i.size) := by
          generalize ρ x = v at hr
          cases hr with
          | ss h' hle ho => rw [hσ] at h'; simp at h'; obtain ⟨rfl, rfl, rfl, rfl⟩ := h'; exact ⟨_, rfl, ho⟩
          | ssN h' => rw [hσ] at h'; simp at h'
          | ssD h' => rw [hσ] at h'; simp at h'
        by_cases hn0 : n = 0
        · subst hn0
          refine opres_val (hex ρ d ty pos after guard) (v := .tuple #[]) (w' := w) (by simp [Builtin.clear_, ha0, run_underlying' hu, hvv]) ⟨σ, rep_tup0, ?_, .refl _ _ _, rfl⟩
          have e : es.take lo ++ (List.replicate 0 (z.cells.toList.map ofV) ++ es.drop (lo + 0)) = es := by simp
          rw [e, upd_one]
          exact write_inv hI hσ rfl rfl rfl rfl rfl (fun _ _ => rfl) (blk_of rfl hcap hmax hg hl hrow)
        · have ho' := ho' (by omega)
          subst ho'
          have hzl : (Builtin.zeroCells z.cells n).toList.length = n * i.size := by simp [size_zeroCells, hzsz]
          have hfit2 : lo * i.size + n * i.size ≤ vs.size := by
            rw [hl, ← Nat.add_mul]; exact Nat.mul_le_mul_right _ (by omega)
          have hst := run_storeCells_fr (P := P) g (lo * i.size) t0 (Builtin.zeroCells z.cells n).toList 0 vs w hg (by rw [hzl]; simpa using hfit2) (zeroCells_one hz3 n)
          simp only [Nat.add_zero] at hst
          obtain ⟨f1, f2, f3, f4, f5⟩ := setRow_facts (w := w) (g := g) (cs := (vs.toList.take (lo * i.size) ++ (Builtin.zeroCells z.cells n).toList ++ vs.toList.drop (lo * i.size + (Builtin.zeroCells z.cells n).toList.length)).toArray)
          have hS := write_step hσ rfl f1 f2 f3 f4 f5
          have hzv : (zeroValue e).run P w = .ok z w := by simp [zeroValue, typeInfo, hi, hz1]
          obtain ⟨n', rfl⟩ := Nat.exists_eq_succ_of_ne_zero hn0
          refine opres_val (hex ρ d ty pos after guard) (v := .tuple #[]) ?_ ⟨σ, rep_tup0, ?_, hS, rfl⟩
          · simp only [Builtin.clear_, ha0, List.getElem?_toArray, List.getElem?_cons_zero, Sem.run_bind, run_underlying' hu, Result.andThen_ok, hvv, hzv, hst, Sem.run_pure]
          · rw [upd_one]
            have eg : ∀ k, (vs.toList.take (lo * i.size) ++ (Builtin.zeroCells z.cells (n' + 1)).toList ++ vs.toList.drop (lo * i.size + (Builtin.zeroCells z.cells (n' + 1)).toList.length)).toArray[k]? = if lo * i.size ≤ k ∧ k < lo * i.size + (n' + 1) * i.size then (Builtin.zeroCells z.cells (n' + 1)).toList[k - lo * i.size]? else vs[k]? := fun k => by
              have := put_get vs.toList (lo * i.size) (Builtin.zeroCells z.cells (n' + 1)).toList (by rw [hzl]; simpa using hfit2) k
              simp only [Array.getElem?_toList, hzl] at this
              rw [List.getElem?_toArray, List.append_assoc, hzl]
              simpa using this
            refine write_inv hI hσ rfl f1 f2 f3 f4 f5 (blk_of (by simp; omega) hcap hmax (hg.set (by simp [hzl] at hfit2 ⊢; omega)) (by simp [hzl] at hfit2 ⊢; omega) fun k a ha => ?_)
            have hlk : (es.take lo).length = lo := by simp; omega
            rw [List.getElem?_append, hlk] at ha
            have two : ∀ {z : Nat} {a b : Nat}, a < b → a * z + z ≤ b * z := fun {z a b} h => by
              have := Nat.mul_le_mul_right z (show a + 1 ≤ b from h); rw [Nat.succ_mul] at this; exact this
            by_cases h1 : k < lo
            · rw [if_pos h1, List.getElem?_take, if_pos h1] at ha
              obtain ⟨a1, a2⟩ := hrow k a ha
              refine ⟨a1, fun j q hq => ?_⟩
              obtain ⟨v, c1, c2, c3⟩ := a2 j q hq
              have hj : j < i.size := by rw [← a1]; exact (List.getElem?_eq_some_iff.1 hq).1
              refine ⟨v, ?_, tau_step c2 hS (Nat.le_refl _), c3⟩
              have := two (z := i.size) h1
              rw [eg, if_neg (by omega), c1]
            · rw [if_neg h1, List.getElem?_append, List.length_replicate] at ha
              by_cases h2 : k - lo < n' + 1
              · rw [if_pos h2] at ha
                obtain ⟨a1, a2⟩ := zeros_row (w := w) (E := Ex X σ) (n := n' + 1) hzsz hz3 (k - lo) a ha
                refine ⟨a1, fun j q hq => ?_⟩
                obtain ⟨v, c1, c2, c3⟩ := a2 j q hq
                have hj : j < i.size := by rw [← a1]; exact (List.getElem?_eq_some_iff.1 hq).1
                have c2' : Rep w (Ex X σ) (tau p σ) q v := by
                  cases p with
                  | true => exact rep0 c2
                  | false => exact c2
                refine ⟨v, ?_, tau_step c2' hS (Nat.le_refl _), c3⟩
                have e3 : k * i.size = lo * i.size + (k - lo) * i.size := by rw [← Nat.add_mul]; congr 1; omega
                have := two (z := i.size) h2
                rw [eg, if_pos ⟨by omega, by omega⟩, show k * i.size + j - lo * i.size = (k - lo) * i.size + j by omega]
                rw [Array.getElem?_toList, Builtin.zeroCells, hzsz]
                rw [hzsz] at c1
                exact c1
              · rw [if_neg h2, List.getElem?_drop] at ha
                have ek : lo + (n' + 1) + (k - lo - (n' + 1)) = k := by omega
                rw [ek] at ha
                obtain ⟨a1, a2⟩ := hrow k a ha
                refine ⟨a1, fun j q hq => ?_⟩
                obtain ⟨v, c1, c2, c3⟩ := a2 j q hq
                have hj : j < i.size := by rw [← a1]; exact (List.getElem?_eq_some_iff.1 hq).1
                refine ⟨v, ?_, tau_step c2 hS (Nat.le_refl _), c3⟩
                have e3 : lo * i.size + (n' + 1) * i.size ≤ k * i.size := by
                  rw [← Nat.add_mul]; exact Nat.mul_le_mul_right _ (by omega)
                rw [eg, if_neg (by omega), c1]
      · subst hes
        have e0 : lo = 0 ∧ n = 0 := by simp at hfit; omega
        obtain ⟨rfl, rfl⟩ := e0
        have hvv : ρ x = .slice none 0 0 := by
          generalize ρ x = v at hr
          cases hr with
          | ss h' => rw [hσ] at h'; simp at h'
          | ssN h' => rfl
          | ssD h' => rw [hσ] at h'; simp at h'
        refine opres_val (hex ρ d ty pos after guard) (v := .tuple #[]) (w' := w) (by simp [Builtin.clear_, ha0, run_underlying' hu, hvv]) ⟨σ, rep_tup0, ?_, .refl _ _ _, rfl⟩
        simp only [List.take_nil, List.replicate_zero, List.drop_nil, List.append_nil]
        rw [upd_one]
        refine ⟨by simp [hI.len], fun j c0 a hc ha => ?_, hI.lt, hI.inj, hI.dis, hI.xlt⟩
        rw [List.getElem?_set] at hc
        by_cases hj : b = j
        · subst hj
          rw [hσ] at ha; simp at ha; subst ha
          rw [if_pos rfl] at hc
          split at hc
          · simp at hc; subst hc; exact nil_blk
          · simp at hc
        · rw [if_neg hj] at hc; exact hI.ok j c0 a hc ha
    | _ => exact hk.elim
  | _ => exact hk.elim
end
end Go.Sx

/- Conversions; arrays compared; all operations together. No statement of the seat is proved here. -/
namespace Go.Sx
section
variable {P : Program} {T : Tab}

theorem isByteK_mk {e : TypeId} {k k' : Prop} (h : isByteK T e k) : k ∧ (k' → isByteK T e k') := by
  obtain ⟨te, hk, hs⟩ := tyK_det T e _ (show tyK T e _ from h)
  generalize hti : te.ti = ti at hk
  cases ti with
  | int q => cases q <;> first | exact hk.elim | exact ⟨hk, fun h' => hs _ (by rw [hti]; exact h')⟩
  | _ => exact hk.elim
def cvK (T : Tab) (h : Hp) (nid : Nat) (a t : TypeId) (ti tj : TI) (sx : SV) (K : Kop) : Prop :=
  match ti, tj, sx with
    | .none, _, _ => False
    | _, .int k, .int _ n => K (.int k (k.wrap n)) [] []
    | .str, .slice e, .str s => isByteK T e (s.length ≤ 4611686018427387903 ∧ K (.sl nid) [(nid, .row e 1 (s.map byteCell))] [nid])
    | .slice e, .slice _, .sl b => isByteK T e (eqNK a t (nthK h b fun blk => match blk with
      | .row t z es => (match es with | [] => False | x :: xs => K (.sl b) [(b, .row t z (x :: xs))] [b])
      | _ => False))
    | .slice e, .str, .nils => isByteK T e (K (.str []) [] [])
    | .slice e, .str, .rs z es => isByteK T e (eqNK z 1 (StrG es fun s => K (.str s) [] []))
    | .slice e, .str, .sl b => isByteK T e (nthK h b fun blk => match blk with
      | .row _ z es => eqNK z 1 (StrG es fun s => K (.str s) [] [b])
      | _ => False)
    | _, _, _ => False
noncomputable def cvV (T : Tab) (c : Bool) (hg : HgF) (nid : Nat) (a t : TypeId) (ti tj : TI) (sx : SV) (K : Kop) : Prop :=
  match ti, tj, sx with
    | .str, .slice e, .str s => isByteK T e (bChk (decide (s.length ≤ 4611686018427387903)) (K (.sl nid) [(nid, .row e 1 (s.map byteCell))] [nid]))
    | .slice e, .str, .rs z es => isByteK T e (eqNK z 1 (bytesK es fun s => K (.str s) [] []))
    | .slice e, .str, .sl b => isByteK T e (hg b fun blk => match blk with
      | .row _ z es => eqNK z 1 (bytesK es fun s => K (.str s) [] [b])
      | _ => False)
    | .slice e, .slice _, .sl b => isByteK T e (eqNK a t (hg b fun blk => match blk with
      | .row t z es => (match es with | [] => False | x :: xs => K (.sl b) [(b, .row t z (x :: xs))] [b])
      | _ => False))
    | .none, _, _ => False
    | _, .int k, .int _ n => KVo c K (.int k (wrapI k n)) [] []
    | _, _, _ => False
theorem conv_okV (hT : TabOK P T) {c : Bool} {F : Fr} {h : Hp} {nid : Nat} {a t : TypeId} {x : Operand} {K : Kop} (hf : allocs T (.convert a t x) = true → h[nid]? = some .fresh) (hk : evK F x fun x => tyK T a fun ta => tyK T t fun te => cvV T c (nthK h) nid a t ta.ti te.ti x K) : OpGood P F h (.convert a t x) K := by
  obtain ⟨sx, hk1, hx⟩ := evK_det F x _ hk
  obtain ⟨ta, hk2, hta⟩ := tyK_det T a _ (show tyK T a _ from hk1)
  obtain ⟨te, hk3, hte⟩ := tyK_det T t _ hk2
  have mk : ∀ K' : Kop, cvK T h nid a t ta.ti te.ti sx K' → OpGood P F h (.convert a t x) K' := fun K' h' => convert_ok hT hf (hta _ (hte _ (hx _ h')))
  clear hk hk1 hk2 hx hta hte
  revert mk hk3
  generalize ta.ti = ti
  generalize te.ti = tj
  intro hk mk
  cases ti <;> cases tj <;> cases sx <;> first
    | exact hk.elim
    | exact OpGood.up (mk (KVo c K) hk)
    | exact OpGood.up (mk (KVo c K) (by simp only [cvV, wrapI_eq] at hk; exact hk))
    | exact mk K hk
    | skip
  case str.slice.str e s =>
    obtain ⟨hk, hb⟩ := isByteK_mk (k' := (s.length ≤ 4611686018427387903 ∧ K (.sl nid) [(nid, .row e 1 (s.map byteCell))] [nid])) (show isByteK T e _ from hk)
    obtain ⟨h1, h2⟩ := bChk_sound hk
    exact mk K (hb ⟨of_decide_eq_true h1, h2⟩)
  case slice.str.rs e z es =>
    obtain ⟨hk, hb⟩ := isByteK_mk (k' := eqNK z 1 (StrG es fun s => K (.str s) [] [])) (show isByteK T e _ from hk)
    obtain ⟨h1, h2⟩ := eqNK_sound hk
    exact mk K (hb (eqNK_mk h1 (bytesK_sound es h2)))
  case slice.str.sl e b =>
    obtain ⟨hk, hb⟩ := isByteK_mk (k' := nthK h b fun blk => match blk with
      | .row _ z es => eqNK z 1 (StrG es fun s => K (.str s) [] [b])
      | _ => False) (show isByteK T e _ from hk)
    obtain ⟨blk, hk, hs⟩ := nthK_det h b _ (show nthK h b _ from hk)
    refine mk K (hb (hs _ ?_))
    cases blk with
    | row t0 z es =>
      obtain ⟨h1, h2⟩ := eqNK_sound hk
      exact eqNK_mk h1 (bytesK_sound es h2)
    | _ => exact hk.elim

/-! ### arrays of numbers, compared -/
noncomputable def intBK (x y : SV) (yes no : Prop) : Prop := match x, y with
  | .int q a, .int q' b => if q = q' then bFork (decide (a = b)) yes no else False
  | _, _ => False
noncomputable def intsB (xs : List SV) : List SV → (Bool → Prop) → Prop :=
  List.rec (motive := fun _ => List SV → (Bool → Prop) → Prop) (fun ys k => List.rec (motive := fun _ => Prop) (k true) (fun _ _ _ => False) ys)
    (fun x _ ih ys k => List.rec (motive := fun _ => Prop) False (fun y ys' _ => intBK x y (ih ys' k) (k false)) ys) xs
theorem part_one {e : TypeId} {q : IntKind} (he : P.underlying e = some (.int q)) (hc : P.cellsOf e = 1) (w : World) (xs : Array Value) (j : Nat) {v : Value} (hv : xs[j]? = some v) : (part e xs (j * P.cellsOf e)).run P w = .ok v w := by
  simp [part, isAgg, run_underlying' he, hc, hv]
theorem intsB_sound (xs : List SV) : ∀ {ys : List SV} {k : Bool → Prop}, intsB xs ys k → ∃ r, k r ∧ ∀ (w : World) (E : Nat → Prop) (σ : Sg) (vx vy : Array Value) (o d : Nat) (e : TypeId) (q : IntKind),
    P.underlying e = some (.int q) → P.cellsOf e = 1 → (∀ (i : Nat) (s : SV), xs[i]? = some s → ∃ v, vx[o + i]? = some v ∧ Rep w E σ s v) → (∀ (i : Nat) (s : SV), ys[i]? = some s → ∃ v, vy[o + i]? = some v ∧ Rep w E σ s v) →
      (Op.eqItems (d + 1) e (P.cellsOf e) vx vy (List.range' o xs.length)).run P w = .ok r w := by
  induction xs with
  | nil =>
    intro ys k h
    cases ys with
    | nil => exact ⟨true, h, fun w E σ vx vy o d e q _ _ _ _ => by simp [Op.eqItems]⟩
    | cons _ _ => exact h.elim
  | cons x xs ih =>
    intro ys k h
    cases ys with
    | nil => exact h.elim
    | cons y ys =>
      have h' : intBK x y (intsB xs ys k) (k false) := h
      clear h
      cases x <;> cases y <;> first | exact h'.elim | skip
      rename_i q a q' b
      by_cases hq : q = q'
      · subst hq
        have h : bFork (decide (a = b)) (intsB xs ys k) (k false) := by simpa only [intBK, if_true] using h'
        clear h'
        have one : ∀ (w : World) (E : Nat → Prop) (σ : Sg) (vx : Array Value) (o : Nat) (n : Int) (l : List SV), (∀ (i : Nat) (s : SV), (SV.int q n :: l)[i]? = some s → ∃ v, vx[o + i]? = some v ∧ Rep w E σ s v) → vx[o]? = some (.int q n) := fun w E σ vx o n l hx => by
          obtain ⟨v, h1, h2⟩ := hx 0 _ rfl
          cases h2; exact h1
        rcases bFork_sound h with ⟨hb, h1⟩ | ⟨hb, h1⟩
        · have hb := of_decide_eq_true hb
          obtain ⟨r, hk, hr⟩ := ih h1
          clear h h1
          subst hb
          refine ⟨r, hk, fun w E σ vx vy o d e q' he hc hx hy => ?_⟩
          have h1 := one w E σ vx o a xs hx
          have h2 := one w E σ vy o a ys hy
          have hrec := hr w E σ vx vy (o + 1) d e q' he hc (fun i s hs => by have := hx (i + 1) s (by simpa using hs); rwa [show o + (i + 1) = o + 1 + i by omega] at this)
            (fun i s hs => by have := hy (i + 1) s (by simpa using hs); rwa [show o + (i + 1) = o + 1 + i by omega] at this)
          simp only [List.length_cons, List.range'_succ, Op.eqItems, Sem.run_bind, part_one he hc w vx o h1, part_one he hc w vy o h2, Result.andThen_ok, run_equalIn_int w d e q q' a a he]
          simpa using hrec
        · have hb := of_decide_eq_false hb
          refine ⟨false, h1, fun w E σ vx vy o d e q' he hc hx hy => ?_⟩
          have h1 := one w E σ vx o a xs hx
          have h2 := one w E σ vy o b ys hy
          simp only [List.length_cons, List.range'_succ, Op.eqItems, Sem.run_bind, part_one he hc w vx o h1, part_one he hc w vy o h2, Result.andThen_ok, run_equalIn_int w d e q q' a b he]
          simp [hb]
      · simp only [intBK, if_neg hq] at h'

noncomputable def arrsK (T : Tab) (t : TypeId) (x y : SV) (k : Bool → Prop) : Prop :=
  tyK T t fun te => match te.ti, x, y with
    | .array n e, .agg xs, .agg ys => tyK T e fun ee => match ee.ti with
      | .int _ => eqNK ee.size 1 (eqNK xs.length n (intsB xs ys k))
      | _ => False
    | _, _, _ => False
noncomputable def arrEqV (T : Tab) (op : BinOp) (t : TypeId) (x y : SV) (K : Kop) : Prop :=
  eqOpK op fun w => arrsK T t x y fun r => K (bitS r w) [] []
theorem arrEq_okV (hT : TabOK P T) {F : Fr} {h : Hp} {op : BinOp} {t u : TypeId} {xo yo : Operand} {K : Kop} (hk : evK F xo fun x => evK F yo fun y => arrEqV T op t x y K) : OpGood P F h (.binOp op t xo yo u) K := by
  obtain ⟨x, hk1, hx⟩ := evK_sound hk
  obtain ⟨y, hk2, hy⟩ := evK_sound hk1
  obtain ⟨w, hop, hk3⟩ : ∃ w, ((op = .eql ∧ w = true) ∨ (op = .neq ∧ w = false)) ∧ arrsK T t x y fun r => K (bitS r w) [] [] := by
    cases op <;> first | exact hk2.elim | exact ⟨_, .inl ⟨rfl, rfl⟩, hk2⟩ | exact ⟨_, .inr ⟨rfl, rfl⟩, hk2⟩
  clear hk hk1 hk2
  replace hk3 := tyK_sound hT (show tyK T t _ from hk3)
  generalize hti : (teOf P t).ti = ti at hk3
  cases ti with
  | array n e =>
    cases x with
    | agg xs => cases y with
      | agg ys =>
        have hu := und_array (ti_of hti (by simp)).1
        replace hk3 := tyK_sound hT (show tyK T e _ from hk3)
        generalize htj : (teOf P e).ti = tj at hk3
        cases tj with
        | int q =>
          have he := und_int (ti_of htj (by simp)).1
          obtain ⟨hs1, hk4⟩ := eqNK_sound hk3
          obtain ⟨hn, hk5⟩ := eqNK_sound hk4
          obtain ⟨r, hk, hr⟩ := intsB_sound xs hk5
          obtain ⟨_, i, hi, hsz, _⟩ := ti_of htj (by simp)
          have hc : P.cellsOf e = 1 := by
            rw [← hs1, hsz]; simp [Program.cellsOf, hi]
          have hgd : P.eqGuardType P.depth t = false := by
            unfold Program.depth
            rw [show 2 * (P.types.size + Made.depth) + 2 = (2 * (P.types.size + Made.depth) + 1) + 1 from rfl]
            simp [Program.eqGuardType, hu, he]
          refine ⟨_, _, _, hk, fun wd X σ h2 ρ d ty pos after guard hI ho hrd => ?_, by simp⟩
          have r1 := hx wd _ σ ρ (ho xo (by simp [Op.operands]))
          have r2 := hy wd _ σ ρ (ho yo (by simp [Op.operands]))
          generalize hρx : ρ xo = vx at r1
          generalize hρy : ρ yo = vy at r2
          cases r1 with
          | @agg _ _ vx hl1 _ hc1 =>
            cases r2 with
            | @agg _ _ vy hl2 _ hc2 =>
              have hq : (Op.equalIn (9999 + 1) t (.agg vx) (.agg vy)).run P wd = .ok r wd := by
                rw [run_equalIn_array wd 9999 vx vy hu hi, List.range_eq_range', ← hn]
                refine hr wd (Ex X σ) σ vx vy 0 9998 e q he hc (fun i s hs => ?_) (fun i s hs => ?_)
                · have hlt : i < vx.size := by rw [← hl1]; exact (List.getElem?_eq_some_iff.1 hs).1
                  exact ⟨vx[i], by rw [Nat.zero_add]; exact Array.getElem?_eq_getElem hlt, hc1 i s _ hs (Array.getElem?_eq_getElem hlt)⟩
                · have hlt : i < vy.size := by rw [← hl2]; exact (List.getElem?_eq_some_iff.1 hs).1
                  exact ⟨vy[i], by rw [Nat.zero_add]; exact Array.getElem?_eq_getElem hlt, hc2 i s _ hs (Array.getElem?_eq_getElem hlt)⟩
              have hg := run_eqGuard_agg wd op t xo yo vx vy hgd
              obtain ⟨v, hv, hrep⟩ := eq_run (E := Ex X σ) (σ := σ) hop (by simp) hg hq
              rw [← hρx, ← hρy] at hv
              exact opres_val rfl hv ⟨σ, hrep, hI, .refl _ _ _, rfl⟩
        | _ => exact hk3.elim
      | _ => exact hk3.elim
    | _ => cases y <;> exact hk3.elim
  | _ => exact hk3.elim
end
end Go.Sx

/- Maps by arrays of numbers. No statement of the seat is proved here. -/
namespace Go.Sx
section
variable {P : Program} {T : Tab}

noncomputable def intsK (ks : List SV) (k : Prop) : Prop := List.rec (motive := fun _ => Prop) k (fun x _ ih => match x with | .int _ _ => ih | _ => False) ks
theorem intsK_sound (ks : List SV) {k : Prop} : intsK ks k → k ∧ ∀ s ∈ ks, ∃ q n, s = .int q n := by
  induction ks with
  | nil => exact fun h => ⟨h, by simp⟩
  | cons x ks ih =>
    intro h
    cases x with
    | int q n =>
      obtain ⟨h1, h2⟩ := ih (show intsK ks k from h)
      refine ⟨h1, fun s hs => ?_⟩
      rcases List.mem_cons.1 hs with rfl | hs
      · exact ⟨q, n, rfl⟩
      · exact h2 s hs
    | _ => exact False.elim h
/-- A key that is an array of numbers. -/
noncomputable def arrTyK (T : Tab) (t : TypeId) (ks : List SV) (k : Prop) : Prop := tyK T t fun te => match te.ti with
  | .array n e => tyK T e fun ee => match ee.ti with
    | .int _ => eqNK ee.size 1 (eqNK ks.length n (intsK ks k))
    | _ => False
  | _ => False
structure ArrKey (P : Program) (t : TypeId) (ks : List SV) (e : TypeId) (q : IntKind) : Prop where
  ut : P.underlying t = some (.array ks.length e)
  ue : P.underlying e = some (.int q)
  ce : P.cellsOf e = 1
  ints : ∀ s ∈ ks, ∃ q n, s = .int q n
theorem arrTyK_sound (hT : TabOK P T) {t : TypeId} {ks : List SV} {k : Prop} (h : arrTyK T t ks k) : k ∧ ∃ e q, ArrKey P t ks e q := by
  have h := tyK_sound hT (show tyK T t _ from h)
  generalize hti : (teOf P t).ti = ti at h
  cases ti with
  | array n e =>
    have h := tyK_sound hT (show tyK T e _ from h)
    generalize htj : (teOf P e).ti = tj at h
    cases tj with
    | int q =>
      obtain ⟨hs1, h⟩ := eqNK_sound h
      obtain ⟨hn, h⟩ := eqNK_sound h
      obtain ⟨hk, hi⟩ := intsK_sound ks h
      subst hn
      obtain ⟨_, i, hinf, hsz, _⟩ := ti_of htj (by simp)
      exact ⟨hk, e, q, ⟨und_array (ti_of hti (by simp)).1, und_int (ti_of htj (by simp)).1, by rw [← hs1, hsz]; simp [Program.cellsOf, hinf], hi⟩⟩
    | _ => exact h.elim
  | _ => exact h.elim

theorem info_ce {e : TypeId} (h : P.cellsOf e = 1) : ∃ inf, P.info? e = some inf ∧ inf.size = 1 := by
  unfold Program.cellsOf at h
  cases hi : P.info? e with
  | none => rw [hi] at h; simp at h
  | some inf => rw [hi] at h; exact ⟨inf, rfl, by simpa using h⟩
theorem checkKey_arr {t e : TypeId} {q : IntKind} {ks : List SV} (hk : ArrKey P t ks e q) {w w' : World} {E : Nat → Prop} {σ : Sg} {v : Value} (hv : Rep w' E σ (.agg ks) v) (b : Bool) : (Instr.checkKey b 10000 t v).run P w = .ok () w := by
  cases hv with
  | @agg _ _ vs hl h1 hc =>
    obtain ⟨inf, hinf, hsz⟩ := info_ce hk.ce
    have one : ∀ i, i < vs.size → (part e vs (i * 1)).run P w = .ok (vs.getD i Go.undef) w := fun i hi => by
      have := part_one hk.ue hk.ce w vs i (Array.getElem?_eq_getElem hi)
      rw [hk.ce] at this
      rw [this]
      simp [Array.getD, hi]
    rw [show (10000 : Nat) = 9998 + 1 + 1 from rfl, Instr.checkKey]
    simp only [Sem.run_bind, run_underlying' hk.ut, Result.andThen_ok]
    simp only [Std.Legacy.Range.forIn_eq_forIn_range', Std.Legacy.Range.size, Nat.sub_zero, Nat.add_one_sub_one, Nat.div_one]
    have each : ∀ i ∈ List.range' 0 ks.length, i < vs.size := fun i hi => by
      rw [List.mem_range'_1] at hi
      rw [← hl]; omega
    generalize List.range' 0 ks.length = is at each
    induction is with
    | nil => simp
    | cons j is ih =>
      have p1 := one j (each j (by simp))
      have p2 : (Instr.checkKey b (9998 + 1) e (vs.getD j Go.undef)).run P w = .ok () w := by
        rw [Instr.checkKey]
        simp only [Sem.run_bind, run_underlying' hk.ue, Result.andThen_ok]
        rfl
      simp only [List.forIn_cons, Sem.run_bind, run_sizeOf hinf, Result.andThen_ok, hsz, p1, p2, Sem.run_pure]
      exact ih fun y hy => each y (by simp [hy])

/-! ### a key sought among keys -/
noncomputable def afindK (ks : List SV) (es : List ME) : Nat → (Option Nat → Prop) → Prop := List.rec (motive := fun _ => Nat → (Option Nat → Prop) → Prop) (fun _ k => k none)
  (fun e _ ih i k => match e.1 with
    | .agg ks' => intsB ks ks' fun r => Bool.rec (motive := fun _ => Prop) (ih (Nat.succ i) k) (k (some i)) r
    | _ => False) es
theorem equal_arr {t e : TypeId} {q : IntKind} {ks ks' : List SV} (hk : ArrKey P t ks e q) {r : Bool} {w : World} {E : Nat → Prop} {σ : Sg} {v u : Value} (hv : Rep w E σ (.agg ks) v) (hu : Rep w E σ (.agg ks') u)
    (hr : ∀ (w : World) (E : Nat → Prop) (σ : Sg) (vx vy : Array Value) (o d : Nat) (e : TypeId) (q : IntKind),
    P.underlying e = some (.int q) → P.cellsOf e = 1 → (∀ (i : Nat) (s : SV), ks[i]? = some s → ∃ v, vx[o + i]? = some v ∧ Rep w E σ s v) → (∀ (i : Nat) (s : SV), ks'[i]? = some s → ∃ v, vy[o + i]? = some v ∧ Rep w E σ s v) →
      (Op.eqItems (d + 1) e (P.cellsOf e) vx vy (List.range' o ks.length)).run P w = .ok r w) : (Op.equal t v u).run P w = .ok r w := by
  cases hv with
  | @agg _ _ vx hl1 _ hc1 => cases hu with
    | @agg _ _ vy hl2 _ hc2 =>
      obtain ⟨inf, hinf, hsz⟩ := info_ce hk.ce
      show (Op.equalIn (9999 + 1) t (.agg vx) (.agg vy)).run P w = .ok r w
      rw [run_equalIn_array w 9999 vx vy hk.ut hinf, List.range_eq_range']
      refine hr w E σ vx vy 0 9998 e q hk.ue hk.ce (fun i s hs => ?_) (fun i s hs => ?_)
      · have hlt : i < vx.size := by rw [← hl1]; exact (List.getElem?_eq_some_iff.1 hs).1
        exact ⟨vx[i], by rw [Nat.zero_add]; exact Array.getElem?_eq_getElem hlt, hc1 i s _ hs (Array.getElem?_eq_getElem hlt)⟩
      · have hlt : i < vy.size := by rw [← hl2]; exact (List.getElem?_eq_some_iff.1 hs).1
        exact ⟨vy[i], by rw [Nat.zero_add]; exact Array.getElem?_eq_getElem hlt, hc2 i s _ hs (Array.getElem?_eq_getElem hlt)⟩
theorem afindK_sound {t e : TypeId} {q : IntKind} {ks : List SV} (hk : ArrKey P t ks e q) (es : List ME) : ∀ {i : Nat} {k : Option Nat → Prop}, afindK ks es i k → ∃ r : Option Nat, k r ∧ (∀ j, r = some j → i ≤ j ∧ j < i + es.length) ∧
    ∀ (w : World) (E : Nat → Prop) (σ : Sg) (v : Value) (ms : List MapEntry), Rep w E σ (.agg ks) v → es.length = ms.length → (∀ (j : Nat) (e : ME) (m : MapEntry), es[j]? = some e → ms[j]? = some m → Rep w E σ e.1 m.key) →
      (match r with
        | none => (Instr.findAsking t v ms i).run P w = .ok none w
        | some j => ∃ m, ms[j - i]? = some m ∧ (Instr.findAsking t v ms i).run P w = .ok (some (j, m.val)) w) := by
  induction es with
  | nil =>
    intro i k h
    refine ⟨none, h, by simp, fun w E σ v ms _ hl _ => ?_⟩
    cases ms with
    | nil => rfl
    | cons m ms => simp at hl
  | cons a es ih =>
    intro i k h
    obtain ⟨ka, va, ca⟩ := a
    cases ka with
    | agg ks' =>
      obtain ⟨r, h, hr⟩ := intsB_sound ks (show intsB ks ks' (fun r => Bool.rec (motive := fun _ => Prop) (afindK ks es (Nat.succ i) k) (k (some i)) r) from h)
      cases r with
      | true =>
        refine ⟨some i, h, fun j hj => by simp at hj; subst hj; simp, fun w E σ v ms hv hl hc => ?_⟩
        cases ms with
        | nil => simp at hl
        | cons m ms =>
          have he := equal_arr hk hv (hc 0 _ m rfl rfl) hr
          exact ⟨m, by simp, by simp only [Instr.findAsking, Sem.run_bind, he, Result.andThen_ok, if_true, Sem.run_pure]⟩
      | false =>
        obtain ⟨r, hk', hlt, hrr⟩ := ih (show afindK ks es (Nat.succ i) k from h)
        refine ⟨r, hk', fun j hj => by have := hlt j hj; simp; omega, fun w E σ v ms hv hl hc => ?_⟩
        cases ms with
        | nil => simp at hl
        | cons m ms =>
          have he := equal_arr hk hv (hc 0 _ m rfl rfl) hr
          have := hrr w E σ v ms hv (by simpa using hl) (fun j e' m' he hm => hc (j + 1) e' m' (by simpa using he) (by simpa using hm))
          have step : (Instr.findAsking t v (m :: ms) i).run P w = (Instr.findAsking t v ms (i + 1)).run P w := by
            simp only [Instr.findAsking, Sem.run_bind, he, Result.andThen_ok]
            rfl
          cases r with
          | none => rw [step]; exact this
          | some j =>
            obtain ⟨m', a, b⟩ := this
            have hj := hlt j rfl
            refine ⟨m', ?_, by rw [step]; exact b⟩
            rw [show j - i = (j - (i + 1)) + 1 by omega]
            simpa using a
    | _ => exact False.elim h
theorem findKey_arr {t e : TypeId} {q : IntKind} {ks : List SV} (hk : ArrKey P t ks e q) {w : World} {v : Value} (hv : ∃ vs, v = .agg vs) {ms : List MapEntry} {r : Option (Nat × Value)} (h : (Instr.findAsking t v ms 0).run P w = .ok r w) : (Instr.findKey t v ms).run P w = .ok r w := by
  simp only [Instr.findKey, Sem.run_bind, run_underlying' hk.ut, Result.andThen_ok]
  cases ms with
  | nil => simpa [Instr.findNow, Instr.findAsking] using h
  | cons m ms =>
    obtain ⟨vs, rfl⟩ := hv
    have : Instr.findNow (.array ks.length e) (.agg vs) (m :: ms) 0 = none := by simp [Instr.findNow, Instr.sameNow]
    rw [this]; exact h
theorem agg_of {w : World} {E : Nat → Prop} {σ : Sg} {ks : List SV} {v : Value} (h : Rep w E σ (.agg ks) v) : ∃ vs, v = .agg vs := by cases h; exact ⟨_, rfl⟩

/-! ### a lookup -/
noncomputable def lookA (T : Tab) (c : Bool) (hg : HgF) (t : TypeId) (m : SV) (ks : List SV) (ok : Bool) (K : Kop) : Prop :=
  tyK T t fun te => match te.ti with
    | .map kt et => arrTyK T kt ks (match m with
      | .mp b => mapsK hg b fun _ es _ => afindK ks es 0 fun r => match r with
        | none => zvK T et fun z => Bool.rec (motive := fun _ => Prop) (KVo c K z [] [b]) (K (.tup [z, .ff]) [] [b]) ok
        | some i => nthK es i fun e => Bool.rec (motive := fun _ => Prop) (KVo c K e.2.1 [] [b]) (K (.tup [e.2.1, .tt]) [] [b]) ok
      | _ => False)
    | _ => False
theorem evK_both {F : Fr} {x : Operand} {k : SV → Prop} (h : evK F x k) : ∃ s, k s ∧ (∀ k' : SV → Prop, k' s → evK F x k') ∧ ∀ (w : World) (E : Nat → Prop) (σ : Sg) (ρ : Operand → Value), OpnRep w E σ F ρ x → Rep w E σ s (ρ x) := by
  obtain ⟨s, hk, hs⟩ := evK_det F x _ h
  obtain ⟨s', he, hr⟩ := evK_sound (hs (fun t => t = s) rfl)
  subst he
  exact ⟨_, hk, hs, hr⟩
theorem lookA_okV (hT : TabOK P T) {c : Bool} {F : Fr} {h : Hp} {t : TypeId} {x y : Operand} {ok : Bool} {K : Kop} (hk : evK F x fun m => evK F y fun key => match key with
    | .agg ks => lookA T c (nthK h) t m ks ok K | key => lookV T c (nthK h) t m key ok K) : OpGood P F h (.lookup t x y ok) K := by
  obtain ⟨m, hk, hmk, hm⟩ := evK_both hk
  obtain ⟨key, hk, hyk, hy⟩ := evK_both hk
  have mk : lookV T c (nthK h) t m key ok K → OpGood P F h (.lookup t x y ok) K := fun h' => lookup_okV hT (hmk _ (hyk _ h'))
  cases key with
  | agg ks =>
    clear mk hmk hyk
    replace hk : lookA T c (nthK h) t m ks ok K := hk
    replace hk := tyK_sound hT (show tyK T t _ from hk)
    generalize hti : (teOf P t).ti = ti at hk
    cases ti with
    | map kt et =>
      have hu := und_map (ti_of hti (by simp)).1
      obtain ⟨hk, e, q, hak⟩ := arrTyK_sound hT hk
      cases m with
      | mp b =>
        have hk : mapsK (nthK h) b (fun _ es _ => afindK ks es 0 fun r => match r with
          | none => zvK T et fun z => Bool.rec (motive := fun _ => Prop) (KVo c K z [] [b]) (K (.tup [z, .ff]) [] [b]) ok
          | some i => nthK es i fun e => Bool.rec (motive := fun _ => Prop) (KVo c K e.2.1 [] [b]) (K (.tup [e.2.1, .tt]) [] [b]) ok) := hk
        obtain ⟨p, es, ck, hb, hk⟩ := mapsK_sound hk
        obtain ⟨r, hk, hlt, hfind⟩ := afindK_sound hak es hk
        have hrun : ∀ (w : World) (X : Nat → Prop) (σ : Sg) (h2 : Hp) (ρ : Operand → Value), Inv w X σ h2 → (∀ z ∈ (Op.lookup t x y ok).operands.toList, OpnRep w (Ex X σ) σ F ρ z) → h2[b]? = h[b]? →
            (match r with
              | none => ∀ z, (zeroValue et).run P w = .ok z w → (Instr.lookup t (ρ x) (ρ y) ok).run P w = .ok (if ok then .tuple #[z, .bool false] else z) w
              | some i => ∀ e, es[i]? = some e → ∃ v, Rep w (Ex X σ) σ e.2.1 v ∧ (Instr.lookup t (ρ x) (ρ y) ok).run P w = .ok (if ok then .tuple #[v, .bool true] else v) w) := fun w X σ h2 ρ hI ho hrd => by
          have h1 := hm w _ σ ρ (ho x (by simp [Op.operands]))
          have h2' := hy w _ σ ρ (ho y (by simp [Op.operands]))
          obtain ⟨g, ms, hσ, hg, hM, _⟩ := maps_of hI (hrd.trans hb)
          have hv : ρ x = .map (some g) := by
            generalize hρ : ρ x = vx at h1
            cases h1 with
            | mp h' => rw [hσ] at h'; simp at h'; subst h'; rfl
            | mpD h' => rw [hσ] at h'; simp at h'
          have hf := hfind w (Ex X σ) σ (ρ y) ms.toList h2' (by rw [hM.1]; simp) (fun j e m he hm => (hM.2 j e m he (by rw [← Array.getElem?_toList]; exact hm)).1)
          have hc := checkKey_arr (w := w) hak h2' ms.isEmpty
          cases r with
          | none =>
            intro z hz
            have hf := findKey_arr hak (agg_of h2') hf
            simp only [Instr.lookup, Sem.run_bind, run_underlying' hu, Result.andThen_ok, hv, run_getMap hg, Sem.run_pure, hc, hf, hz]
          | some i =>
            intro e he
            obtain ⟨m, hm, hf⟩ := hf
            have hf := findKey_arr hak (agg_of h2') hf
            rw [Nat.sub_zero, Array.getElem?_toList] at hm
            refine ⟨m.val, (hM.2 i e m he hm).2.1, ?_⟩
            simp only [Instr.lookup, Sem.run_bind, run_underlying' hu, Result.andThen_ok, hv, run_getMap hg, Sem.run_pure, hc, hf]
        cases r with
        | none =>
          obtain ⟨s, z, hk, hz, hrz⟩ := zvK_sound hT (show zvK T et _ from hk)
          cases ok with
          | false => exact OpGood.up (c := c) ⟨_, _, _, hk, fun w X σ h2 ρ d ty pos after guard hI ho hrd => .pure (run_val (hrun w X σ h2 ρ hI ho (hrd b (by simp)) z (hz w))) hI (hrz _ _ _), by simp⟩
          | true => exact ⟨_, _, _, hk, fun w X σ h2 ρ d ty pos after guard hI ho hrd => .pure (run_val (hrun w X σ h2 ρ hI ho (hrd b (by simp)) z (hz w))) hI (rep_tup2 (hrz _ _ _) .ff), by simp⟩
        | some i =>
          obtain ⟨e, he, hk⟩ := nthK_sound (show nthK es i _ from hk)
          cases ok with
          | false => exact OpGood.up (c := c) ⟨_, _, _, hk, fun w X σ h2 ρ d ty pos after guard hI ho hrd => by
              obtain ⟨v, hv, hr⟩ := hrun w X σ h2 ρ hI ho (hrd b (by simp)) e he
              exact .pure (run_val hr) hI hv, by simp⟩
          | true => exact ⟨_, _, _, hk, fun w X σ h2 ρ d ty pos after guard hI ho hrd => by
              obtain ⟨v, hv, hr⟩ := hrun w X σ h2 ρ hI ho (hrd b (by simp)) e he
              exact .pure (run_val hr) hI (rep_tup2 hv .tt), by simp⟩
      | _ => exact hk.elim
    | _ => exact hk.elim
  | _ => exact mk hk

/-! ### a store into an empty map -/
noncomputable def mupA (T : Tab) (hg : HgF) (t : TypeId) (m : SV) (ks : List SV) (v : SV) (K : Kop) : Prop :=
  tyK T t fun te => match te.ti with
    | .map kt _ => arrTyK T kt ks (match m with
      | .mp b => mapsK hg b fun p es ck => match es with
        | [] => K .undef [(b, mapOf' (pAfter p v) [(.agg ks, v, ck)] (Nat.succ ck))] [b]
        | _ => False
      | _ => False)
    | _ => False
theorem rep_intsA {w w' : World} {E E' : Nat → Prop} {σ σ' : Sg} {ks : List SV} {v : Value} (hi : ∀ s ∈ ks, ∃ q n, s = SV.int q n) (h : Rep w E σ (.agg ks) v) : Rep w' E' σ' (.agg ks) v := by
  cases h with
  | agg hl ho hc =>
    refine .agg hl ho fun i s v hs hv => ?_
    obtain ⟨q, n, rfl⟩ := hi s (List.mem_of_getElem? hs)
    have := hc i _ v hs hv
    cases this
    constructor
theorem mupA_okV (hT : TabOK P T) {F : Fr} {h : Hp} {t : TypeId} {x y z : Operand} {K : Kop} (hk : evK F x fun m => evK F y fun key => evK F z fun v => match key with
    | .agg ks => mupA T (nthK h) t m ks v K | key => mupV T (nthK h) t m key v K) : OpGood P F h (.mapUpdate t x y z) K := by
  obtain ⟨m, hk, hmk, hm⟩ := evK_both hk
  obtain ⟨key, hk, hyk, hy⟩ := evK_both hk
  obtain ⟨v, hk, hzk, hz⟩ := evK_both hk
  have mk : mupV T (nthK h) t m key v K → OpGood P F h (.mapUpdate t x y z) K := fun h' => mup_okV hT (hmk _ (hyk _ (hzk _ h')))
  cases key with
  | agg ks =>
    clear mk hmk hyk hzk
    replace hk : mupA T (nthK h) t m ks v K := hk
    replace hk := tyK_sound hT (show tyK T t _ from hk)
    generalize hti : (teOf P t).ti = ti at hk
    cases ti with
    | map kt et =>
      have hu := und_map (ti_of hti (by simp)).1
      obtain ⟨hk, e, q, hak⟩ := arrTyK_sound hT hk
      cases m with
      | mp b =>
        have hk : mapsK (nthK h) b (fun p es ck => match es with
          | [] => K .undef [(b, mapOf' (pAfter p v) [(.agg ks, v, ck)] (Nat.succ ck))] [b]
          | _ => False) := hk
        obtain ⟨p, es, ck, hb, hk⟩ := mapsK_sound hk
        cases es with
        | nil =>
          refine ⟨_, _, _, hk, fun w X σ h2 ρ d ty pos after guard hI ho hrd => ?_, by simp⟩
          have h1 := hm w _ σ ρ (ho x (by simp [Op.operands]))
          have hrk := hy w _ σ ρ (ho y (by simp [Op.operands]))
          have hrv := hz w _ σ ρ (ho z (by simp [Op.operands]))
          obtain ⟨g, ms, hσ, hg, hM, hM0⟩ := maps_of hI ((hrd b (by simp)).trans hb)
          have hv : ρ x = .map (some g) := by
            generalize hρ : ρ x = vx at h1
            cases h1 with
            | mp h' => rw [hσ] at h'; simp at h'; subst h'; rfl
            | mpD h' => rw [hσ] at h'; simp at h'
          have hms : ms = #[] := by
            have := hM.1
            simp at this
            exact Array.eq_empty_of_size_eq_zero this.symm
          subst hms
          have hc := checkKey_arr (w := w) hak hrk false
          have hf : (Instr.findKey kt (ρ y) ([] : List MapEntry)).run P w = .ok none w := findKey_arr hak (agg_of hrk) rfl
          have hr : (Instr.mapUpdate t (ρ x) (ρ y) (ρ z)).run P w = .ok () (setMap w g ((#[] : Array MapEntry).push { key := ρ y, val := ρ z, born := ck }) (ck + 1)) := by
            simp only [Instr.mapUpdate, Sem.run_bind, run_underlying' hu, Result.andThen_ok, hv, run_getMap hg, hc, Array.toList_empty, hf, run_setMap hg]
          refine opres_unit (m := Instr.mapUpdate t (ρ x) (ρ y) (ρ z)) rfl hr ?_
          have mk : ∀ τ : Sg, Rep w (Ex X σ) τ (.agg ks) (ρ y) → Rep w (Ex X σ) τ v (ρ z) → MOK w (Ex X σ) τ [(.agg ks, v, ck)] ((#[] : Array MapEntry).push { key := ρ y, val := ρ z, born := ck }) := fun τ a1 a2 => by
            refine ⟨by simp, fun i e m he hm => ?_⟩
            match i with
            | 0 => simp at he hm; subst he; subst hm; exact ⟨a1, a2, rfl⟩
            | _ + 1 => simp at he
          have hp := put_map (p := pAfter p v) (c := ck + 1) hI hσ hg (mk σ hrk hrv) (fun hp => by
            obtain ⟨e1, e2⟩ := pAfter_false hp
            exact mk [] (rep_intsA hak.ints hrk) (e2 _ _ _ _ _ hrv))
          exact ⟨σ, .undef, hp.1, hp.2, rfl⟩
        | cons _ _ => exact hk.elim
      | _ => exact hk.elim
    | _ => exact hk.elim
  | _ => exact mk hk
end
end Go.Sx

/- A row of bytes read as a string for good: the row is frozen. No statement of the seat is proved here. -/
namespace Go.Sx
section
variable {P : Program} {T : Tab}

theorem kill_inv {w w' : World} {X : Nat → Prop} {σ : Sg} {h : Hp} (hI : Inv w X σ h) {n : Nat} {e : Ent} {g : Nat} (he : σ[n]? = some e) (hg : e.blk = some g)
    (ho : w'.os = w.os) (ht : w'.tape = w.tape) (hout : w'.output = w.output) (hs : w'.heap.size = w.heap.size) (hw : ∀ k, k ≠ g → w'.heap[k]? = w.heap[k]?) :
    Inv w' X (σ.set n .dead) (h.set n .dead) ∧ Step σ.length w σ w' (σ.set n .dead) := by
  have hnl : n < σ.length := (List.getElem?_eq_some_iff.1 he).1
  have old : ∀ (i : Nat) (e' : Ent) (k : Nat), (σ.set n .dead)[i]? = some e' → e'.blk = some k → σ[i]? = some e' ∧ i ≠ n := fun i e' k h1 h2 => by
    rw [List.getElem?_set] at h1
    by_cases hin : n = i
    · subst hin
      rw [if_pos rfl, if_pos hnl] at h1
      simp at h1; subst h1; simp [Ent.blk] at h2
    · rw [if_neg hin] at h1; exact ⟨h1, fun h => hin h.symm⟩
  have hO : ∀ k, Owned (σ.set n .dead) k → Owned σ k := fun k ⟨i, e', h1, h2⟩ => ⟨i, e', (old i e' k h1 h2).1, h2⟩
  have hS : Step σ.length w σ w' (σ.set n .dead) := ⟨ho, ht, hout, by omega, fun k _ hk => hw k fun h => hk (h ▸ ⟨n, e, he, hg⟩), fun k hk _ => hO k hk, fun i e' _ he' _ => by
    rw [List.getElem?_set]
    by_cases hin : n = i
    · subst hin; right; rw [if_pos rfl, if_pos hnl]
    · left; rw [if_neg hin]; exact he'⟩
  refine ⟨⟨by simp [hI.len], fun i b' e' hb' he' => ?_, fun i e' k he' hk => by rw [hs]; exact hI.lt i e' k (old i e' k he' hk).1 hk,
    fun i j e1 e2 k h1 h2 g1 g2 => hI.inj i j e1 e2 k (old i e1 k h1 g1).1 (old j e2 k h2 g2).1 g1 g2, fun k hx ho' => hI.dis k hx (hO k ho'), fun k hx => by rw [hs]; exact hI.xlt k hx⟩, hS⟩
  rw [List.getElem?_set] at hb' he'
  by_cases hin : n = i
  · subst hin
    rw [if_pos rfl, if_pos (by rw [← hI.len]; exact hnl)] at hb'
    rw [if_pos rfl, if_pos hnl] at he'
    simp at hb' he'
    subst hb'; subst he'; trivial
  · rw [if_neg hin] at hb' he'
    exact (hI.ok i b' e' hb' he').step hS (Nat.le_refl _) fun k hk => hw k fun hkg => hin (hI.inj n i e e' g he he' hg (hkg ▸ hk))

/-! ### where a row's cells lie -/
noncomputable def dataV (hg : HgF) (x : SV) (K : Kop) : Prop := match x with
  | .nils => K .nilp [] []
  | .sl b => rowsK hg b fun _ _ _ es => List.rec (motive := fun _ => Prop) False (fun _ _ _ => K (.ep b 0 0) [] [b]) es
  | _ => False
theorem data_okV {F : Fr} {h : Hp} {ats : Array TypeId} {xs : Array Operand} {x : Operand} (hxs : xs.toList = [x]) {K : Kop}
    (hk : evK F x fun m => dataV (nthK h) m K) : OpGood P F h (.call ⟨.builtin .unsafeSliceData, xs, ats⟩) K := by
  obtain ⟨m, hk, hm⟩ := evK_sound hk
  have hx0 : ∀ ρ : Operand → Value, xs.map ρ = #[ρ x] := fun ρ => by
    have : (xs.map ρ).toList = [ρ x] := by rw [Array.toList_map, hxs]; rfl
    rw [← Array.toArray_toList (xs := xs.map ρ), this]
  have hmx : x ∈ (Op.call ⟨.builtin .unsafeSliceData, xs, ats⟩).operands.toList := by simp [Op.operands, Call.operands]; rw [← Array.mem_toList_iff, hxs]; simp
  have hex : ∀ (ρ : Operand → Value) (d : Option Tmp) (ty : TypeId) (pos : String) (after : Array Edge) (guard : Option (Nat × Bool)),
      execOp ρ ⟨d, .call ⟨.builtin .unsafeSliceData, xs, ats⟩, ty, pos, after, guard⟩ = (do pure (Next.value (← Builtin.unsafeSliceData_ ats ty #[ρ x])) : Sem Next) := fun ρ d ty pos after guard => by
    rw [exec_builtin, hx0]; rfl
  cases m with
  | nils =>
    refine ⟨_, _, _, hk, fun w X σ h2 ρ d ty pos after guard hI ho hrd => ?_, by simp⟩
    have h1 := hm w _ σ ρ (ho x hmx)
    refine opres_val (hex ρ d ty pos after guard) (v := .pointer none) (w' := w) ?_ ⟨σ, .nilp, hI, .refl _ _ _, rfl⟩
    generalize hρ : ρ x = vx at h1
    cases h1
    rfl
  | sl b =>
    have hk : rowsK (nthK h) b (fun _ _ _ es => List.rec (motive := fun _ => Prop) False (fun _ _ _ => K (.ep b 0 0) [] [b]) es) := hk
    obtain ⟨p, T0, z, es, hb, hk⟩ := rowsK_sound hk
    cases es with
    | nil => exact hk.elim
    | cons e es =>
      refine ⟨_, _, _, hk, fun w X σ h2 ρ d ty pos after guard hI ho hrd => ?_, by simp⟩
      have h1 := hm w _ σ ρ (ho x hmx)
      rcases rows_of hI ((hrd b (by simp)).trans hb) with ⟨g, cap, vs, hσ, hcap, _⟩ | ⟨_, hes⟩
      · have hv : ρ x = .slice (some ⟨g, 0, none⟩) (e :: es).length cap := by
          generalize hρ : ρ x = vx at h1
          cases h1 with
          | sl h' => rw [hσ] at h'; simp at h'; obtain ⟨rfl, rfl, rfl, rfl⟩ := h'; rfl
          | slN h' => rw [hσ] at h'; simp at h'
          | slD h' => rw [hσ] at h'; simp at h'
        have hc0 : cap ≠ 0 := by simp at hcap; omega
        refine opres_val (hex ρ d ty pos after guard) (v := .pointer (some ⟨g, 0, none⟩)) (w' := w) ?_ ⟨σ, ?_, hI, .refl _ _ _, rfl⟩
        · rw [hv]
          have : Builtin.unsafeSliceData_ ats ty #[.slice (some ⟨g, 0, none⟩) (e :: es).length cap] = (pure (.pointer (some ⟨g, 0, none⟩)) : Sem Value) := by
            show (if cap ≠ 0 then _ else _ : Sem Value) = _
            rw [if_pos hc0]
          rw [this]; rfl
        · have := Rep.ep (w := w) (E := Ex X σ) (i := 0) (f := 0) hσ
          simpa using this
      · simp at hes
  | _ => exact hk.elim

/-! ### the row read -/
noncomputable def ustrV (T : Tab) (hg : HgF) (pt : TypeId) (x y : SV) (K : Kop) : Prop := match x, y with
  | .nilp, .int .i64 n => bChk (eqI n 0) (K (.str []) [] [])
  | .ep b 0 0, .int .i64 n => tyK T pt fun te => match te.ti with
    | .ptr e => tyK T e fun ee => eqNK ee.size 1 (isByteK T e (hg b fun blk => match blk with
      | .row t z es => bChk (Nat.beq t e) (eqNK z 1 (List.rec (motive := fun _ => Prop) False (fun _ _ _ => bChk (eqI n (es.length : Int)) (bytesK es fun s => K (.str s) [(b, .dead)] [b])) es))
      | _ => False))
    | _ => False
  | _, _ => False
theorem size_cells {e : TypeId} {q : IntKind} (hu : P.underlying e = some (.int q)) (h : (teOf P e).size = 1) : P.cellsOf e = 1 := by
  unfold Program.cellsOf
  unfold teOf at h
  cases hi : P.info? e with
  | none => rw [hi] at h; simp at h
  | some i => rw [hi] at h; simpa using h
theorem ustr_okV (hT : TabOK P T) {F : Fr} {h : Hp} {pt : TypeId} {ats : Array TypeId} {xs : Array Operand} {x y : Operand} (hats : ats = #[pt, ats.getD 1 0]) (hxs : xs.toList = [x, y]) {K : Kop}
    (hk : evK F x fun m => evK F y fun n => ustrV T (nthK h) pt m n K) : OpGood P F h (.call ⟨.builtin .unsafeString, xs, ats⟩) K := by
  obtain ⟨m, hk, hm⟩ := evK_sound hk
  obtain ⟨l, hk, hl⟩ := evK_sound hk
  have hx0 : ∀ ρ : Operand → Value, xs.map ρ = #[ρ x, ρ y] := fun ρ => by
    have : (xs.map ρ).toList = [ρ x, ρ y] := by rw [Array.toList_map, hxs]; rfl
    rw [← Array.toArray_toList (xs := xs.map ρ), this]
  have hmx : x ∈ (Op.call ⟨.builtin .unsafeString, xs, ats⟩).operands.toList := by simp [Op.operands, Call.operands]; rw [← Array.mem_toList_iff, hxs]; simp
  have hmy : y ∈ (Op.call ⟨.builtin .unsafeString, xs, ats⟩).operands.toList := by simp [Op.operands, Call.operands]; rw [← Array.mem_toList_iff, hxs]; simp
  have hex : ∀ (ρ : Operand → Value) (d : Option Tmp) (ty : TypeId) (pos : String) (after : Array Edge) (guard : Option (Nat × Bool)),
      execOp ρ ⟨d, .call ⟨.builtin .unsafeString, xs, ats⟩, ty, pos, after, guard⟩ = (do pure (Next.value (← Builtin.unsafeString_ ats ty #[ρ x, ρ y])) : Sem Next) := fun ρ d ty pos after guard => by
    rw [exec_builtin, hx0]; rfl
  cases m with
  | nilp =>
    cases l with
    | int q n =>
      cases q <;> first | exact hk.elim | skip
      obtain ⟨hn, hk⟩ := bChk_sound (show bChk (eqI n 0) (K (.str []) [] []) from hk)
      rw [eqI_eq] at hn
      have hn := of_decide_eq_true hn
      subst hn
      refine ⟨_, _, _, hk, fun w X σ h2 ρ d ty pos after guard hI ho hrd => ?_, by simp⟩
      have h1 := hm w _ σ ρ (ho x hmx)
      have h2' := hl w _ σ ρ (ho y hmy)
      refine opres_val (hex ρ d ty pos after guard) (v := .string .empty) (w' := w) ?_ ⟨σ, .str (s := []), hI, .refl _ _ _, rfl⟩
      generalize hρ : ρ x = vx at h1
      generalize hρy : ρ y = vy at h2'
      cases h1
      cases h2'
      rw [hats]
      exact Lib.run_unsafeString_none w _ _ _ none
    | _ => exact hk.elim
  | ep b i f =>
    cases i <;> cases f <;> cases l <;> first | exact hk.elim | skip
    rename_i q n
    cases q <;> first | exact hk.elim | skip
    replace hk := tyK_sound hT (show tyK T pt _ from hk)
    generalize hti : (teOf P pt).ti = ti at hk
    cases ti with
    | ptr e =>
      have hup := und_ptr (ti_of hti (by simp)).1
      replace hk := tyK_sound hT (show tyK T e _ from hk)
      obtain ⟨hce0, hk⟩ := eqNK_sound hk
      obtain ⟨hue, hk⟩ := isByteK_sound hT (show isByteK T e _ from hk)
      have hce : P.cellsOf e = 1 := size_cells hue hce0
      obtain ⟨blk, hb, hk⟩ := nthK_sound (show nthK h b _ from hk)
      cases blk with
      | row t z es =>
        obtain ⟨ht, hk⟩ := bChk_sound hk
        have ht := Nat.eq_of_beq_eq_true ht
        obtain ⟨hz, hk⟩ := eqNK_sound hk
        cases es with
        | nil => exact hk.elim
        | cons e0 es =>
          obtain ⟨hn, hk⟩ := bChk_sound hk
          rw [eqI_eq] at hn
          have hn := of_decide_eq_true hn
          obtain ⟨s, hs, hk⟩ := bytesK_sound _ hk
          refine ⟨_, _, _, hk, fun w X σ h2 ρ d ty pos after guard hI ho hrd => ?_, by simp⟩
          have h1 := hm w _ σ ρ (ho x hmx)
          have h2' := hl w _ σ ρ (ho y hmy)
          have hzz : z = 1 := hz
          subst hzz
          rcases row_of hI ((hrd b (by simp)).trans hb) with ⟨g, cap, vs, hσ, hcap, hcm, ⟨fr, hg, _⟩, hvs, hrow⟩ | ⟨_, hes⟩
          · have hv : ρ x = .pointer (some ⟨g, 0, none⟩) := by
              generalize hρ : ρ x = vx at h1
              cases h1 with
              | ep h' => rw [hσ] at h'; simp at h'; obtain ⟨rfl, rfl, rfl, rfl⟩ := h'; rfl
              | epD h' => rw [hσ] at h'; simp at h'
            have hvy : ρ y = .int .i64 n := by
              generalize hρ : ρ y = vy at h2'
              cases h2'; rfl
            have hlen : s.length = (e0 :: es).length := by rw [hs]; simp
            have hsh : w.shape? g = some (e, vs.size) := by
              subst ht
              simp [World.shape?, hg]
            have hrun : (Builtin.unsafeString_ ats ty #[ρ x, ρ y]).run P w = .ok (.string ⟨s.toArray⟩) (w.freeze ⟨g, 0, none⟩ s.length) := by
              rw [hv, hvy, hn, ← hlen, hats]
              refine Lib.run_unsafeString_row w _ _ _ e hup hce g vs.size hsh s (by intro h0; rw [h0] at hlen; simp at hlen) (by rw [hvs, hlen]; omega) (by unfold maxLen at hcm; omega) fun j a hj => ?_
              have hje : (e0 :: es)[j]? = some (byteCell a) := by rw [hs, List.getElem?_map, hj]; rfl
              obtain ⟨_, hcell⟩ := hrow j _ hje
              obtain ⟨v, hv1, hv2, _⟩ := hcell 0 (.int .u8 a.toNat) rfl
              rw [Nat.mul_one, Nat.add_zero] at hv1
              cases hv2
              rw [addr_add]
              simp only [World.cell?, hg, Nat.zero_add]
              exact hv1
            have hfz : ∀ k, k ≠ g → (w.freeze ⟨g, 0, none⟩ s.length).heap[k]? = w.heap[k]? := fun k hk => by
              unfold World.freeze
              split
              · rfl
              · simp only [Array.getElem?_modify]
                rw [if_neg (fun h => hk h.symm)]
            have hki := kill_inv (w' := w.freeze ⟨g, 0, none⟩ s.length) hI hσ rfl (by unfold World.freeze; split <;> rfl) (by unfold World.freeze; split <;> rfl) (by unfold World.freeze; split <;> rfl) (by unfold World.freeze; split <;> simp) hfz
            refine opres_val (hex ρ d ty pos after guard) hrun ⟨σ.set b .dead, .str, ?_, hki.2, by simp⟩
            rw [upd_one]
            exact hki.1
          · simp at hes
      | _ => exact hk.elim
    | _ => exact hk.elim
  | _ => cases l <;> exact hk.elim
end
end Go.Sx

/- All operations together. No statement of the seat is proved here. -/
namespace Go.Sx
section
variable {P : Program} {T : Tab}

noncomputable def aggBV (T : Tab) (c : Bool) (op : BinOp) (t : TypeId) (x y : SV) (K : Kop) : Prop :=
  tyK T t fun te => match te.ti with
    | .array _ _ => arrEqV T op t x y K
    | _ => binV T c op t x y fun s => K s [] []
/-! ### numbers of which bounds and a remainder are known -/
noncomputable def ivL (x : SV) (k : IntKind → Int → Int → Int → Int → Int → Prop) : Prop := match x with
  | .iv q a lo hi m r => k q a lo hi m r
  | .int q a => k q a a a 1 0
  | _ => False
noncomputable def ivOp (op : BinOp) (q : IntKind) (a lo hi m r b lo' hi' : Int) (K : SV → Prop) : Prop :=
  match op with
  | .lss => bFork (ltI hi lo') (K .tt) (bFork (leI hi' lo) (K .ff) (a < b ∧ K .tt))
  | .leq => bFork (leI hi lo') (K .tt) (bFork (ltI hi' lo) (K .ff) (a ≤ b ∧ K .tt))
  | .gtr => bFork (ltI hi' lo) (K .tt) (bFork (leI hi lo') (K .ff) (b < a ∧ K .tt))
  | .geq => bFork (leI hi' lo) (K .tt) (bFork (ltI hi lo') (K .ff) (b ≤ a ∧ K .tt))
  | .eql => bFork (ltI hi lo') (K .ff) (bFork (ltI hi' lo) (K .ff) (a = b ∧ K .tt))
  | .neq => bFork (ltI hi lo') (K .tt) (bFork (ltI hi' lo) (K .tt) (a ≠ b ∧ K .tt))
  | .add => intF (addI lo lo') fun l => intF (addI hi hi') fun h => bChk (inR q l) (bChk (inR q h) (K (.iv q (a + b) l h 1 0)))
  | .sub => intF (addI lo (negI hi')) fun l => intF (addI hi (negI lo')) fun h => bChk (inR q l) (bChk (inR q h) (K (.iv q (a - b) l h 1 0)))
  | .mul => bChk (leI 0 b) (intF (mulI lo b) fun l => intF (mulI hi b) fun h => bChk (inR q l) (bChk (inR q h) (K (.iv q (a * b) l h 1 0))))
  | .rem => bChk (eqI b m) (bChk (leI 0 lo) (bChk (neI m 0) (K (.int q r))))
  | _ => False
noncomputable def ivV (op : BinOp) (x y : SV) (K : SV → Prop) : Prop := ivL x fun q a lo hi m r => ivL y fun q' b lo' hi' _ _ => bChk (kindB q q') (ivOp op q a lo hi m r b lo' hi' K)
theorem ivL_sound {x : SV} {k : IntKind → Int → Int → Int → Int → Int → Prop} (h : ivL x k) : ∃ q a lo hi m r, k q a lo hi m r ∧ ∀ (w : World) (E : Nat → Prop) (σ : Sg) (v : Value), Rep w E σ x v → v = .int q a ∧ lo ≤ a ∧ a ≤ hi ∧ a % m = r := by
  cases x with
  | iv q a lo hi m r => exact ⟨q, a, lo, hi, m, r, h, fun w E σ v hr => by cases hr with | iv h1 h2 h3 => exact ⟨rfl, h1, h2, h3⟩⟩
  | int q a => exact ⟨q, a, a, a, 1, 0, h, fun w E σ v hr => by cases hr; exact ⟨rfl, Int.le_refl _, Int.le_refl _, Int.emod_one a⟩⟩
  | _ => exact h.elim
theorem inR_between {k : IntKind} {l h n : Int} (hl : inR k l = true) (hh : inR k h = true) (h0 : l ≤ n) (h1 : n ≤ h) : k.wrap n = n := by
  have b0 : k.min ≤ l := by
    cases k <;> cases l <;> simp only [inR, Bool.false_eq_true] at hl <;> have hl := Nat.le_of_ble_eq_true hl <;> simp [IntKind.min, IntKind.bits, IntKind.signed] <;> omega
  have b1 : h ≤ k.max := by
    cases k <;> cases h <;> simp only [inR, Bool.false_eq_true] at hh <;> have hh := Nat.le_of_ble_eq_true hh <;> simp [IntKind.max, IntKind.bits, IntKind.signed] <;> omega
  exact wrap_id (by omega) (by omega)
/-- What an operation on two such numbers leaves. -/
theorem ivOp_sound {op : BinOp} {q : IntKind} {a lo hi m r b lo' hi' : Int} {K : SV → Prop} (h : ivOp op q a lo hi m r b lo' hi' K) :
    ∃ s s0, K s ∧ intK op q a b (· = s0) ∧ op ≠ .shl ∧ op ≠ .shr ∧ ∀ (w : World) (E : Nat → Prop) (σ : Sg) (v : Value), lo ≤ a → a ≤ hi → lo' ≤ b → b ≤ hi' → a % m = r → Rep w E σ s0 v → Rep w E σ s v := by
  have yes : ∀ {c : Bool} {w : World} {E : Nat → Prop} {σ : Sg} {v : Value}, c = true → Rep w E σ (.bool c) v → Rep w E σ .tt v := fun hc hr => by subst hc; cases hr; exact .tt
  have no : ∀ {c : Bool} {w : World} {E : Nat → Prop} {σ : Sg} {v : Value}, c = false → Rep w E σ (.bool c) v → Rep w E σ .ff v := fun hc hr => by subst hc; cases hr; exact .ff
  cases op <;> simp only [ivOp, ltI_eq, leI_eq, eqI_eq, addI_eq, negI_eq, mulI_eq, neI_eq] at h <;> try exact h.elim
  case lss =>
    rcases bFork_sound h with ⟨h1, h⟩ | ⟨_, h⟩
    · have h1 := of_decide_eq_true h1; exact ⟨_, _, h, rfl, by simp, by simp, fun w E σ v a1 a2 a3 a4 _ hr => yes (decide_eq_true (by omega)) hr⟩
    · rcases bFork_sound h with ⟨h1, h⟩ | ⟨_, h2, h⟩
      · have h1 := of_decide_eq_true h1; exact ⟨_, _, h, rfl, by simp, by simp, fun w E σ v a1 a2 a3 a4 _ hr => no (decide_eq_false (by omega)) hr⟩
      · exact ⟨_, _, h, rfl, by simp, by simp, fun w E σ v a1 a2 a3 a4 _ hr => yes (decide_eq_true h2) hr⟩
  case leq =>
    rcases bFork_sound h with ⟨h1, h⟩ | ⟨_, h⟩
    · have h1 := of_decide_eq_true h1; exact ⟨_, _, h, rfl, by simp, by simp, fun w E σ v a1 a2 a3 a4 _ hr => yes (decide_eq_true (by omega)) hr⟩
    · rcases bFork_sound h with ⟨h1, h⟩ | ⟨_, h2, h⟩
      · have h1 := of_decide_eq_true h1; exact ⟨_, _, h, rfl, by simp, by simp, fun w E σ v a1 a2 a3 a4 _ hr => no (decide_eq_false (by omega)) hr⟩
      · exact ⟨_, _, h, rfl, by simp, by simp, fun w E σ v a1 a2 a3 a4 _ hr => yes (decide_eq_true h2) hr⟩
  case gtr =>
    rcases bFork_sound h with ⟨h1, h⟩ | ⟨_, h⟩
    · have h1 := of_decide_eq_true h1; exact ⟨_, _, h, rfl, by simp, by simp, fun w E σ v a1 a2 a3 a4 _ hr => yes (decide_eq_true (by omega)) hr⟩
    · rcases bFork_sound h with ⟨h1, h⟩ | ⟨_, h2, h⟩
      · have h1 := of_decide_eq_true h1; exact ⟨_, _, h, rfl, by simp, by simp, fun w E σ v a1 a2 a3 a4 _ hr => no (decide_eq_false (by omega)) hr⟩
      · exact ⟨_, _, h, rfl, by simp, by simp, fun w E σ v a1 a2 a3 a4 _ hr => yes (decide_eq_true h2) hr⟩
  case geq =>
    rcases bFork_sound h with ⟨h1, h⟩ | ⟨_, h⟩
    · have h1 := of_decide_eq_true h1; exact ⟨_, _, h, rfl, by simp, by simp, fun w E σ v a1 a2 a3 a4 _ hr => yes (decide_eq_true (by omega)) hr⟩
    · rcases bFork_sound h with ⟨h1, h⟩ | ⟨_, h2, h⟩
      · have h1 := of_decide_eq_true h1; exact ⟨_, _, h, rfl, by simp, by simp, fun w E σ v a1 a2 a3 a4 _ hr => no (decide_eq_false (by omega)) hr⟩
      · exact ⟨_, _, h, rfl, by simp, by simp, fun w E σ v a1 a2 a3 a4 _ hr => yes (decide_eq_true h2) hr⟩
  case eql =>
    rcases bFork_sound h with ⟨h1, h⟩ | ⟨_, h⟩
    · have h1 := of_decide_eq_true h1; exact ⟨_, _, h, rfl, by simp, by simp, fun w E σ v a1 a2 a3 a4 _ hr => no (decide_eq_false (by omega)) hr⟩
    · rcases bFork_sound h with ⟨h1, h⟩ | ⟨_, h2, h⟩
      · have h1 := of_decide_eq_true h1; exact ⟨_, _, h, rfl, by simp, by simp, fun w E σ v a1 a2 a3 a4 _ hr => no (decide_eq_false (by omega)) hr⟩
      · exact ⟨_, _, h, rfl, by simp, by simp, fun w E σ v a1 a2 a3 a4 _ hr => yes (decide_eq_true h2) hr⟩
  case neq =>
    rcases bFork_sound h with ⟨h1, h⟩ | ⟨_, h⟩
    · have h1 := of_decide_eq_true h1; exact ⟨_, _, h, rfl, by simp, by simp, fun w E σ v a1 a2 a3 a4 _ hr => yes (decide_eq_true (by omega)) hr⟩
    · rcases bFork_sound h with ⟨h1, h⟩ | ⟨_, h2, h⟩
      · have h1 := of_decide_eq_true h1; exact ⟨_, _, h, rfl, by simp, by simp, fun w E σ v a1 a2 a3 a4 _ hr => yes (decide_eq_true (by omega)) hr⟩
      · exact ⟨_, _, h, rfl, by simp, by simp, fun w E σ v a1 a2 a3 a4 _ hr => yes (decide_eq_true h2) hr⟩
  case add =>
    have h := intF_sound (k := fun h => bChk (inR q (lo + lo')) (bChk (inR q h) (K (.iv q (a + b) (lo + lo') h 1 0)))) (intF_sound (k := fun l => intF (hi + hi') fun h => bChk (inR q l) (bChk (inR q h) (K (.iv q (a + b) l h 1 0)))) h)
    obtain ⟨c1, h⟩ := bChk_sound h
    obtain ⟨c2, h⟩ := bChk_sound h
    refine ⟨_, _, h, rfl, by simp, by simp, fun w E σ v a1 a2 a3 a4 _ hr => ?_⟩
    rw [inR_between c1 c2 (by omega) (by omega)] at hr
    cases hr
    exact .iv (by omega) (by omega) (Int.emod_one _)
  case sub =>
    have h := intF_sound (k := fun h => bChk (inR q (lo + -hi')) (bChk (inR q h) (K (.iv q (a - b) (lo + -hi') h 1 0)))) (intF_sound (k := fun l => intF (hi + -lo') fun h => bChk (inR q l) (bChk (inR q h) (K (.iv q (a - b) l h 1 0)))) h)
    obtain ⟨c1, h⟩ := bChk_sound h
    obtain ⟨c2, h⟩ := bChk_sound h
    refine ⟨_, _, h, rfl, by simp, by simp, fun w E σ v a1 a2 a3 a4 _ hr => ?_⟩
    have e : a - b = a - b := rfl
    rw [inR_between c1 c2 (by omega) (by omega)] at hr
    cases hr
    exact .iv (by omega) (by omega) (Int.emod_one _)
  case mul =>
    obtain ⟨cp, h⟩ := bChk_sound h
    have cp := of_decide_eq_true cp
    have h := intF_sound (k := fun h => bChk (inR q (lo * b)) (bChk (inR q h) (K (.iv q (a * b) (lo * b) h 1 0)))) (intF_sound (k := fun l => intF (hi * b) fun h => bChk (inR q l) (bChk (inR q h) (K (.iv q (a * b) l h 1 0)))) h)
    obtain ⟨c1, h⟩ := bChk_sound h
    obtain ⟨c2, h⟩ := bChk_sound h
    refine ⟨_, _, h, rfl, by simp, by simp, fun w E σ v a1 a2 a3 a4 _ hr => ?_⟩
    have m1 : lo * b ≤ a * b := Int.mul_le_mul_of_nonneg_right a1 cp
    have m2 : a * b ≤ hi * b := Int.mul_le_mul_of_nonneg_right a2 cp
    rw [inR_between c1 c2 m1 m2] at hr
    cases hr
    exact .iv m1 m2 (Int.emod_one _)
  case rem =>
    obtain ⟨c1, h1⟩ := bChk_sound h
    obtain ⟨c2, h2⟩ := bChk_sound h1
    obtain ⟨c3, h3⟩ := bChk_sound h2
    have c1 := of_decide_eq_true c1
    have c2 := of_decide_eq_true c2
    have c3 := of_decide_eq_true c3
    clear h h1 h2
    subst c1
    refine ⟨_, _, h3, ⟨c3, rfl⟩, by simp, by simp, fun w E σ v a1 a2 a3 a4 a5 hr => ?_⟩
    rw [Int.tmod_eq_emod_of_nonneg (by omega), a5] at hr
    exact hr
end
section
variable {P : Program} {T : Tab}
theorem iv_okV (hT : TabOK P T) {c : Bool} {F : Fr} {h : Hp} {op : BinOp} {t u : TypeId} {xo yo : Operand} {K : Kop} (hk : evK F xo fun x => evK F yo fun y => ivV op x y (fun s => K s [] [])) : OpGood P F h (.binOp op t xo yo u) K := by
  obtain ⟨sx, hk, hx⟩ := evK_sound hk
  obtain ⟨sy, hk, hy⟩ := evK_sound hk
  obtain ⟨q, a, lo, hi, m, r, hk, h1⟩ := ivL_sound hk
  obtain ⟨q', b, lo', hi', m', r', hk, h2⟩ := ivL_sound hk
  obtain ⟨hq, hk1⟩ := bChk_sound hk
  have hq := kindB_eq hq
  clear hk
  subst hq
  obtain ⟨s, s0, hk, hs0, n1, n2, hs⟩ := ivOp_sound hk1
  have hb0 : binK T op t (.int q a) (.int q b) (· = s0) := by
    unfold binK
    cases op <;> first | exact absurd rfl n1 | exact absurd rfl n2 | (simp only [if_true]; exact hs0)
  obtain ⟨s1, e1, hb⟩ := binK_sound hT hb0
  clear hb0
  subst e1
  exact good_pure hk fun w E σ ρ d ty pos after guard ho => by
    obtain ⟨ex, b1, b2, b3⟩ := h1 w E σ _ (hx w E σ ρ (ho xo (by simp [Op.operands])))
    obtain ⟨ey, d1, d2, _⟩ := h2 w E σ _ (hy w E σ ρ (ho yo (by simp [Op.operands])))
    obtain ⟨v, hv, hr⟩ := hb w E σ _ _ xo yo (show Rep w E σ (.int q a) (.int q a) from .int) (show Rep w E σ (.int q b) (.int q b) from .int)
    refine ⟨v, run_val ?_, hs w E σ v b1 b2 d1 d2 b3 hr⟩
    rw [ex, ey]
    exact hv
noncomputable def binDV (T : Tab) (c : Bool) (hg : HgF) (op : BinOp) (t : TypeId) (x y : SV) (cy : Bool) (K : Kop) : Prop :=
  match y with
  | .nilm => nilV T hg op t x .nilm cy K
  | .nili => nilV T hg op t x .nili cy K
  | .ifc u s => nilV T hg op t x (.ifc u s) cy K
  | .nilp => nilV T hg op t x .nilp cy K
  | .ptr b o => nilV T hg op t x (.ptr b o) cy K
  | .nils => (match x with
    | .rs z es => List.rec (motive := fun _ => Prop) (binV T c op t (.rs z []) .nils fun s => K s [] []) (fun e r _ => nilV T hg op t (.rs z (e :: r)) .nils cy K) es
    | x => nilV T hg op t x .nils cy K)
  | .agg ys => aggBV T c op t x (.agg ys) K
  | .iv q a lo hi m r => ivV op x (.iv q a lo hi m r) fun s => K s [] []
  | .int q b => (match x with
    | .iv q' a lo hi m r => ivV op (.iv q' a lo hi m r) (.int q b) fun s => K s [] []
    | x => binV T c op t x (.int q b) fun s => K s [] [])
  | y => binV T c op t x y fun s => K s [] []
theorem binD_okV (hT : TabOK P T) {c : Bool} {F : Fr} {h : Hp} {op : BinOp} {t u : TypeId} {xo yo : Operand} {K : Kop} (hk : evK F xo fun x => evK F yo fun y => binDV T c (nthK h) op t x y (isConstB yo) K) : OpGood P F h (.binOp op t xo yo u) K := by
  obtain ⟨x, hk1, hx⟩ := evK_det F xo _ hk
  obtain ⟨y, hk2, hy⟩ := evK_det F yo _ hk1
  have nl : nilV T (nthK h) op t x y (isConstB yo) K → OpGood P F h (.binOp op t xo yo u) K := fun h' => nil_okV hT (hx _ (hy _ h'))
  have bn : binV T c op t x y (fun s => K s [] []) → OpGood P F h (.binOp op t xo yo u) K := fun h' => OpGood.up (c := c) (binOp_ok hT (nid := 0) (show evK F xo _ from hx _ (hy _ (binV_sound h'))))
  have iv : ivV op x y (fun s => K s [] []) → OpGood P F h (.binOp op t xo yo u) K := fun h' => iv_okV (c := c) hT (hx _ (hy _ h'))
  have ar : arrEqV T op t x y K → OpGood P F h (.binOp op t xo yo u) K := fun h' => arrEq_okV hT (hx _ (hy _ h'))
  clear hk hk1 hx hy
  cases y with
  | nilm => exact nl hk2
  | nili => exact nl hk2
  | ifc _ _ => exact nl hk2
  | nilp => exact nl hk2
  | ptr _ _ => exact nl hk2
  | nils =>
    cases x with
    | rs z es => cases es <;> first | exact nl hk2 | exact bn hk2
    | _ => first | exact nl hk2 | exact bn hk2
  | iv _ _ _ _ _ _ => exact iv hk2
  | int _ _ => cases x <;> first | exact iv hk2 | exact bn hk2
  | agg ys =>
    obtain ⟨te, hk3, ht⟩ := tyK_det T t _ (show tyK T t _ from hk2)
    cases hti : te.ti <;> rw [hti] at hk3 <;> first | exact ar hk3 | exact bn hk3
  | _ => exact bn hk2

noncomputable def lenDV (T : Tab) (hg : HgF) (x : SV) (t : TypeId) (c : Bool) (K : Kop) : Prop :=
  match x with
  | .sl b => lenV T hg t (.sl b) (KVo c K)
  | .ss b l n => lenV T hg t (.ss b l n) (KVo c K)
  | .nilm => lenV T hg t .nilm (KVo c K)
  | .mp b => lenV T hg t (.mp b) (KVo c K)
  | .z0 => lenV T hg t .z0 (KVo c K)
  | x => tyK T t fun te => match te.ti, x with
    | .str, .str s => KVo c K (.int .i64 (s.length : Int)) [] []
    | .slice _, .nils => KVo c K (.int .i64 0) [] []
    | .slice _, .rs _ es => KVo c K (.int .i64 (es.length : Int)) [] []
    | .slice _, .ln n => KVo c K (.int .i64 (n : Int)) [] []
    | _, _ => False
/-- The capacity of a slice that is nil. -/
noncomputable def capV (T : Tab) (t : TypeId) (x : SV) (K : Kop) : Prop := tyK T t fun te => match te.ti, x with
  | .slice _, .nils => K (.int .i64 0) [] []
  | _, _ => False
theorem cap_okV (hT : TabOK P T) {F : Fr} {h : Hp} {t : TypeId} {ats : Array TypeId} {xs : Array Operand} {x : Operand} (hats : ats.toList = t :: ats.toList.tail) (hxs : xs.toList = [x]) {K : Kop}
    (hk : evK F x fun m => capV T t m K) : OpGood P F h (.call ⟨.builtin .cap, xs, ats⟩) K := by
  obtain ⟨m, hk, hm⟩ := evK_sound hk
  replace hk := tyK_sound hT (show tyK T t _ from hk)
  generalize hti : (teOf P t).ti = ti at hk
  have hx0 : ∀ ρ : Operand → Value, xs.map ρ = #[ρ x] := fun ρ => by
    have : (xs.map ρ).toList = [ρ x] := by rw [Array.toList_map, hxs]; rfl
    rw [← Array.toArray_toList (xs := xs.map ρ), this]
  have ha0 : ats[0]? = some t := by rw [← Array.getElem?_toList, hats]; rfl
  have hmx : x ∈ (Op.call ⟨.builtin .cap, xs, ats⟩).operands.toList := by simp [Op.operands, Call.operands]; rw [← Array.mem_toList_iff, hxs]; simp
  have hex : ∀ (ρ : Operand → Value) (d : Option Tmp) (ty : TypeId) (pos : String) (after : Array Edge) (guard : Option (Nat × Bool)),
      execOp ρ ⟨d, .call ⟨.builtin .cap, xs, ats⟩, ty, pos, after, guard⟩ = (do pure (Next.value (← Builtin.cap_ ats ty #[ρ x])) : Sem Next) := fun ρ d ty pos after guard => by
    rw [exec_builtin, hx0]; rfl
  cases ti with
  | slice e =>
    have hu := und_slice (ti_of hti (by simp)).1
    cases m with
    | nils =>
      refine ⟨_, _, _, hk, fun w X σ h2 ρ d ty pos after guard hI ho hrd => ?_, by simp⟩
      have h1 := hm w _ σ ρ (ho x hmx)
      have hv : ρ x = .slice none 0 0 := by
        generalize hρ : ρ x = vx at h1
        cases h1; rfl
      refine opres_val (hex ρ d ty pos after guard) (v := .int .i64 0) (w' := w) ?_ ⟨σ, .int, hI, .refl _ _ _, rfl⟩
      simp only [Builtin.cap_, ha0, List.getElem?_toArray, List.getElem?_cons_zero, Sem.run_bind, run_underlying' hu, Result.andThen_ok, hv, Sem.run_pure, goInt]
      rfl
    | _ => exact hk.elim
  | _ => cases m <;> exact hk.elim
noncomputable def clrDV (T : Tab) (c : Bool) (hg : HgF) (t : TypeId) (x : SV) (K : Kop) : Prop :=
  match x with
  | .nilm => clrMapV T hg t .nilm K
  | .mp b => clrMapV T hg t (.mp b) K
  | x => clrSlV T c hg t x K

noncomputable def needsV (T : Tab) (op : Op) : Bool :=
  match op with
  | .makeMap _ _ => true
  | .range _ _ => true
  | op => allocs T op

/-! ### literals of arrays -/
noncomputable def buildE (ev : EvF) (fs : List (Nat × TypeId × Nat)) (ps : List (Nat × Operand)) : List SV → (List SV → Prop) → Prop :=
  List.rec (motive := fun _ => List SV → (List SV → Prop) → Prop) (fun cs k => k cs)
    (fun p _ ih cs k => nthK fs p.1 fun q => ev p.2 fun s => cellsK s fun c => eqNK c.length q.2.2 (putK cs q.1 c fun cs' => ih cs' k)) ps
def arrFs (n sz : Nat) (e : TypeId) : List (Nat × TypeId × Nat) := (List.range n).map fun i => (i * sz, e, sz)
theorem fill_le {f g : Nat → Option (Nat × Nat)} (hfg : ∀ i p, f i = some p → g i = some p) (l : List (Nat × Value)) : ∀ {vs r : Array Value}, Instr.fill f vs l = some r → Instr.fill g vs l = some r := by
  induction l with
  | nil => intro vs r h; exact h
  | cons p l ih =>
    intro vs r h
    obtain ⟨i, v⟩ := p
    simp only [Instr.fill] at h ⊢
    cases hf : f i with
    | none => rw [hf] at h; simp at h
    | some q =>
      rw [hf] at h
      rw [hfg i q hf]
      simp only at h ⊢
      split at h
      · simp at h
      · rename_i hc
        rw [if_neg hc]
        exact ih h
theorem buildA_ok (hT : TabOK P T) {F : Fr} {h : Hp} {t e : TypeId} {n : Nat} {ps : Array (Nat × Operand)} {K : Kop} (hti : (teOf P t).ti = .array n e)
    (hk : tyK T e fun ee => zeroK ee.zero fun _ => zeroK (teOf P t).zero fun z => buildE (evK F) (arrFs n ee.size e) ps.toList z fun cs => K (.agg cs) [] []) : OpGood P F h (.build t ps) K := by
  replace hk := tyK_sound hT hk
  obtain ⟨ie, ze, hie, hsz, _, _, _, _, _, hk⟩ := info_of_zero hk
  obtain ⟨i, z, hi, _, _, hz, hz1, hz3, _, hk⟩ := info_of_zero hk
  rw [hz] at hk
  obtain ⟨cs, hk, hb⟩ := buildK_sound ps.toList (show buildK F (arrFs n (teOf P e).size e) ps.toList _ _ from hk)
  have hu := und_array (ti_of hti (by simp)).1
  exact good_pure hk fun w E σ ρ d ty pos after guard ho => by
    obtain ⟨vs', hfill, hl, hc⟩ := hb w E σ ρ z.cells (fun p hp => ho p.2 (by simp only [Op.operands, List.mem_map]; exact ⟨p, hp, rfl⟩)) (zero_rep hz3)
    refine ⟨.agg vs', run_val (m := Instr.build t (ps.map fun (i, x) => (i, ρ x))) (run_build w t _ vs' ?_), .agg hl (fun j v hv => ?_) fun j s v hs hv => (hc j s v hs hv).1⟩
    · unfold Program.built
      simp only [hi, hu, hz1, hie]
      have e2 : (ps.map fun (i, x) => (i, ρ x)).toList = ps.toList.map fun p => (p.1, ρ p.2) := by simp
      rw [e2]
      refine fill_le (fun j p hj => ?_) _ hfill
      unfold arrFs at hj
      rw [List.getElem?_map] at hj
      cases hr : (List.range n)[j]? with
      | none => rw [hr] at hj; simp at hj
      | some u =>
        have h2 := List.getElem?_eq_some_iff.1 hr
        obtain ⟨_, h2⟩ := h2
        have : u = j := by simpa using h2.symm
        subst this
        rw [hr] at hj
        simp at hj
        rw [← hj, ← hsz]
    · have hj : j < cs.length := by rw [hl]; exact (Array.getElem?_eq_some_iff.1 hv).1
      exact (hc j _ v (List.getElem?_eq_getElem hj) hv).2

noncomputable def evsE (ev : EvF) (l : List Operand) : (List SV → Prop) → Prop :=
  List.rec (motive := fun _ => (List SV → Prop) → Prop) (fun k => k []) (fun x _ ih k => ev x fun s => ih fun r => k (s :: r)) l
/-- What stands by itself, once found, is kept by the kernel. -/
inductive Box (α : Type) : Type where | mk (a : α)
noncomputable def Box.run {α : Type} (b : Box α) (k : α → Prop) : Prop := Box.rec (motive := fun _ => Prop) (fun a => k a) b
abbrev OpFn := Tab → Bool → EvF → HgF → Nat → Kop → Prop
noncomputable def opB (op : Op) : Box OpFn :=
  match op with
  | .move x => ⟨fun T c ev hg nid K => ev x fun s => KVo c K s [] []⟩
  | .assign x => ⟨fun T c ev hg nid K => ev x fun s => KVo c K s [] []⟩
  | .load t x => ⟨fun T c ev hg nid K => ev x fun x => loadV T c hg t x K⟩
  | .store t x v => ⟨fun T c ev hg nid K => ev x fun x => ev v fun v => storeV T hg t x v K⟩
  | .fieldAddr t x f => ⟨fun T c ev hg nid K => tyK T t fun te => ev x fun x => match te.ti, x with
    | .struct fs, .ptr b off => nthK fs f fun p => neK p.2.2 (natF (off + p.1) fun o => K (.ptr b o) [] [])
    | .struct fs, .ep b i o => nthK fs f fun p => neK p.2.2 (natF (o + p.1) fun o => K (.ep b i o) [] [])
    | .struct fs, .rp z es i o => nthK fs f fun p => neK p.2.2 (natF (o + p.1) fun o => K (.rp z es i o) [] [])
    | _, _ => False⟩
  | .nilCheck x => ⟨fun T c ev hg nid K => ev x fun x => match x with
    | .ptr b o => K (.ptr b o) [] []
    | .ep b i f => K (.ep b i f) [] []
    | .rp z es i f => K (.rp z es i f) [] []
    | _ => False⟩
  | .field t x f => ⟨fun T c ev hg nid K => tyK T t fun te => ev x fun x => match te.ti, x with
    | .struct fs, .agg cs => nthK fs f fun p => partK T cs p.1 p.2.1 fun s => KVo c K s [] []
    | _, _ => False⟩
  | .binOp op t x y _ => ⟨fun T c ev hg nid K => ev x fun x => ev y fun y' => binDV T c hg op t x y' (isConstB y) K⟩
  | .unOp op _ x => ⟨fun T c ev hg nid K => ev x fun x => unK op x fun s => KVo c K s [] []⟩
  | .indexAddr t x i => ⟨fun T c ev hg nid K => (match x with
    | .global g => ev i fun i => indexG T hg t g i K
    | x => ev x fun x => ev i fun i => indexV T hg t x i K)⟩
  | .index t x i => ⟨fun T c ev hg nid K => ev x fun x => ev i fun i => strAtV T c t x i K⟩
  | .extract x i => ⟨fun T c ev hg nid K => ev x fun x => match x with
    | .tup vs => nthK vs i fun s => KVo c K s [] []
    | _ => False⟩
  | .convert a t x => ⟨fun T c ev hg nid K => ev x fun x => tyK T a fun ta => tyK T t fun te => cvV T c hg nid a t ta.ti te.ti x K⟩
  | .alloc t => ⟨fun T c ev hg nid K => tyK T t fun te => zeroK te.zero fun z => K (.ptr nid 0) [(nid, .fix t z)] [nid]⟩
  | .box t x => ⟨fun T c ev hg nid K => ev x fun s => cellsK s fun cs => K (.ptr nid 0) [(nid, .fix t cs)] [nid]⟩
  | .build t ps => ⟨fun T c ev hg nid K => tyK T t fun te => match te.ti with
    | .struct fs => zeroK te.zero fun z => buildE ev fs ps.toList z fun cs => K (.agg cs) [] []
    | .array n e => tyK T e fun ee => zeroK ee.zero fun _ => zeroK te.zero fun z => buildE ev (arrFs n ee.size e) ps.toList z fun cs => K (.agg cs) [] []
    | _ => False⟩
  | .slice t x lo hi mx => ⟨fun T c ev hg nid K => ev x fun x => sliceV T c ev hg t x lo hi mx K⟩
  | .buildSlice t n ps => ⟨fun T c ev hg nid K => buildV T ev nid t n ps K⟩
  | .makeSlice t n m => ⟨fun T c ev hg nid K => ev n fun n => ev m fun m => makeV T c nid t n m K⟩
  | .makeMap _ r => ⟨fun T c ev hg nid K => (match r with | none => K (.mp nid) [(nid, .mapB [] 0)] [nid] | some _ => False)⟩
  | .lookup t x y ok => ⟨fun T c ev hg nid K => ev x fun m => ev y fun key => match key with
    | .agg ks => lookA T c hg t m ks ok K | key => lookV T c hg t m key ok K⟩
  | .mapUpdate t x y z => ⟨fun T c ev hg nid K => ev x fun m => ev y fun key => ev z fun v => match key with
    | .agg ks => mupA T hg t m ks v K | key => mupV T hg t m key v K⟩
  | .mapEntry t x y => ⟨fun T c ev hg nid K => ev x fun m => ev y fun key => mentV T hg t m key K⟩
  | .entryStore _ x y z => ⟨fun T c ev hg nid K => ev x fun m => ev y fun st => ev z fun v => estV hg m st v K⟩
  | .range t x => ⟨fun T c ev hg nid K => ev x fun x => rangeV T hg nid t x K⟩
  | .next x str => ⟨fun T c ev hg nid K => ev x fun x => nextV c hg x str K⟩
  | .entry x => ⟨fun T c ev hg nid K => ev x fun x => entryV hg x K⟩
  | .makeInterface t x => ⟨fun T c ev hg nid K => ev x fun x => mkIfcV T t x K⟩
  | .typeAssert x _ t ok => ⟨fun T c ev hg nid K => ev x fun x => taV T c t x ok K⟩
  | .pick b x y => ⟨fun T c ev hg nid K => ev b fun b => match b with
    | .tt => ev x fun s => KVo c K s [] []
    | .ff => ev y fun s => KVo c K s [] []
    | _ => False⟩
  | .makeFunc fn first caps => ⟨fun T c ev hg nid K => (match fn, first.toList, caps.toList with
    | .func f, [], cs => evsE ev cs fun l => K (.fn f l) [] []
    | .func f, fs, [] => evsE ev fs fun l => K (.mfn f l) [] []
    | _, _, _ => False)⟩
  | .call cl => ⟨fun T c ev hg nid K => (match cl with
    | ⟨.builtin .len, xs, ats⟩ => (match xs.toList, ats.toList with
      | [x], [t] => ev x fun v => lenDV T hg v t c K
      | _, _ => False)
    | ⟨.builtin .cap, xs, ats⟩ => (match xs.toList, ats.toList with
      | [x], [t] => ev x fun v => capV T t v K
      | _, _ => False)
    | ⟨.builtin .unsafeSliceData, xs, _⟩ => (match xs.toList with
      | [x] => ev x fun v => dataV hg v K
      | _ => False)
    | ⟨.builtin .unsafeString, xs, ats⟩ => (match xs.toList, ats.toList with
      | [x, y], [t, _] => ev x fun u => ev y fun v => ustrV T hg t u v K
      | _, _ => False)
    | ⟨.builtin .append, xs, ats⟩ => (match xs.toList, ats.toList with
      | [x, y], [t, u] => ev x fun s => ev y fun v => appTV T c hg nid t u s v K
      | _, _ => False)
    | ⟨.builtin .delete, xs, ats⟩ => (match xs.toList, ats.toList with
      | [x, y], t :: _ => ev x fun m => ev y fun key => delV T hg t m key K
      | _, _ => False)
    | ⟨.builtin .clear, xs, ats⟩ => (match xs.toList, ats.toList with
      | [x], t :: _ => ev x fun m => clrDV T c hg t m K
      | _, _ => False)
    | ⟨.builtin .min, xs, _⟩ => evsE ev xs.toList fun l => match l with
      | [.int k x, .int _ y] => KVo c K (.int k (if y < x then y else x)) [] []
      | _ => False
    | ⟨.builtin .max, xs, _⟩ => evsE ev xs.toList fun l => match l with
      | [.int k x, .int _ y] => KVo c K (.int k (if y > x then y else x)) [] []
      | _ => False
    | _ => False)⟩
  | _ => ⟨fun _ _ _ _ _ _ => False⟩
/-- One operation, calls of Go functions apart. -/
noncomputable def opVE (T : Tab) (c : Bool) (ev : EvF) (hg : HgF) (nid : Nat) (op : Op) (K : Kop) : Prop := (opB op).run fun f => f T c ev hg nid K
noncomputable def opV (T : Tab) (c : Bool) (F : Fr) (h : Hp) (nid : Nat) (op : Op) (K : Kop) : Prop := opVE T c (evK F) (nthK h) nid op K

theorem evsE_det (F : Fr) (l : List Operand) : Det (evsE (evK F) l) := by
  induction l with
  | nil => intro k h; exact ⟨[], h, fun _ h => h⟩
  | cons x l ih =>
    intro k h
    obtain ⟨s, h1, hs⟩ := evK_det F x _ (show evK F x (fun s => evsE (evK F) l fun r => k (s :: r)) from h)
    obtain ⟨r, h2, hr⟩ := ih _ h1
    exact ⟨s :: r, h2, fun k' hk' => hs _ (hr (fun r => k' (s :: r)) hk')⟩
theorem mfn_ok {F : Fr} {h : Hp} {f : FuncId} {first caps : Array Operand} {l : List Operand} (hfs : first.toList = l) (hcs : caps.toList = []) {K : Kop} (hk : evsE (evK F) l fun l => K (.mfn f l) [] []) : OpGood P F h (.makeFunc (.func f) first caps) K := by
  obtain ⟨ss, hk, hl⟩ := evsK_sound (F := F) (l := l) (k := fun l => K (.mfn f l) [] []) hk
  have hc : caps = #[] := by rw [← Array.toArray_toList (xs := caps), hcs]
  subst hc
  refine good_pure hk fun w E σ ρ d ty pos after guard ho => ?_
  have hr := hl w E σ ρ fun y hy => ho y (by simp [Op.operands]; rw [← Array.mem_toList_iff, hfs]; exact hy)
  refine ⟨.func (.func f) (first.map ρ) #[], run_val (m := Instr.makeFunc (.func f) (first.map ρ) (#[].map ρ)) (by simp [Instr.makeFunc]), .mfn ?_ fun j s v hs' hv => hr.2 j s v hs' ?_⟩
  · have := hr.1; rw [← hfs] at this; simpa using this
  · rw [← hfs]; simpa using hv
theorem opV_sound (hT : TabOK P T) {c : Bool} {F : Fr} {h : Hp} {nid : Nat} {op : Op} {K : Kop} (hf : needsV T op = true → h[nid]? = some .fresh) (hk : opV T c F h nid op K) : OpGood P F h op K := by
  have natU : ∀ {n : Nat} {k : Nat → Prop}, natF n k → k n := fun h => natF_sound h
  cases op with
  | move x => exact OpGood.up (c := c) (opK_sound hT (fun h'' => hf h'') (nid := nid) (show opK T F h nid (.move x) (KVo c K) from hk))
  | assign x => exact OpGood.up (c := c) (opK_sound hT (fun h'' => hf h'') (nid := nid) (show opK T F h nid (.assign x) (KVo c K) from hk))
  | unOp o t x => exact OpGood.up (c := c) (opK_sound hT (fun h'' => hf h'') (nid := nid) (show opK T F h nid (.unOp o t x) (KVo c K) from hk))
  | extract x i =>
    refine OpGood.up (c := c) (opK_sound hT (fun h'' => hf h'') (nid := nid) ?_)
    obtain ⟨s, hk1, hs⟩ := evK_det F x _ (show evK F x _ from hk)
    refine hs _ ?_
    cases s <;> exact hk1
  | field t x f =>
    refine OpGood.up (c := c) (opK_sound hT (fun h'' => hf h'') (nid := nid) ?_)
    obtain ⟨te, hk1, hte⟩ := tyK_det T t _ (show tyK T t _ from hk)
    obtain ⟨s, hk2, hs⟩ := evK_det F x _ hk1
    refine hte _ (hs _ ?_)
    revert hk2
    generalize te.ti = ti
    intro hk2
    cases ti <;> cases s <;> exact hk2
  | fieldAddr t x f =>
    refine OpGood.up (c := c) (opK_sound hT (fun h'' => hf h'') (nid := nid) ?_)
    obtain ⟨te, hk1, hte⟩ := tyK_det T t _ (show tyK T t _ from hk)
    obtain ⟨s, hk2, hs⟩ := evK_det F x _ hk1
    refine hte _ (hs _ ?_)
    revert hk2
    generalize te.ti = ti
    intro hk2
    cases ti <;> cases s <;> first
      | exact hk2.elim
      | (obtain ⟨p, hp, hk3⟩ := nthK_det _ _ _ (show nthK _ _ _ from hk2)
         refine hk3 _ ?_
         obtain ⟨h1, h2⟩ := neK_sound hp
         have h2 := natF_sound h2
         cases hq : p.2.2 with
         | zero => exact absurd hq h1
         | succ q => exact h2)
  | nilCheck x =>
    refine OpGood.up (c := c) (opK_sound hT (fun h'' => hf h'') (nid := nid) ?_)
    obtain ⟨s, hk1, hs⟩ := evK_det F x _ (show evK F x _ from hk)
    refine hs _ ?_
    cases s <;> exact hk1
  | alloc t =>
    refine OpGood.up (c := c) (opK_sound hT (fun h'' => hf h'') (nid := nid) ?_)
    exact (show opK T F h nid (.alloc t) (KVo c K) from hk)
  | box t x =>
    refine OpGood.up (c := c) (opK_sound hT (fun h'' => hf h'') (nid := nid) ?_)
    exact (show opK T F h nid (.box t x) (KVo c K) from hk)
  | pick b x y =>
    refine OpGood.up (c := c) (opK_sound hT (fun h'' => hf h'') (nid := nid) ?_)
    obtain ⟨s, hk1, hs⟩ := evK_det F b _ (show evK F b _ from hk)
    refine hs _ ?_
    cases s <;> first | exact hk1 | exact hk1.elim
  | makeFunc fn first caps =>
    cases fn <;> first | exact hk.elim | skip
    rename_i f
    have hk : (match Fn.func f, first.toList, caps.toList with
      | .func f, [], cs => evsE (evK F) cs fun l => K (.fn f l) [] []
      | .func f, fs, [] => evsE (evK F) fs fun l => K (.mfn f l) [] []
      | _, _, _ => False) := hk
    cases hfs : first.toList with
    | nil =>
      rw [hfs] at hk
      refine OpGood.up (c := c) (opK_sound hT (fun h'' => hf h'') (nid := nid) ?_)
      show (match Fn.func f, first.toList with
        | .func f, [] => evsK F caps.toList fun l => KVo c K (.fn f l) [] []
        | _, _ => False)
      rw [hfs]
      exact hk
    | cons x xs =>
      cases hcs : caps.toList with
      | cons _ _ => rw [hfs, hcs] at hk; exact hk.elim
      | nil =>
        rw [hfs, hcs] at hk
        exact mfn_ok hfs hcs hk
  | build t ps =>
    obtain ⟨te, hk1, hte⟩ := tyK_det T t _ (show tyK T t _ from hk)
    have ht := tyK_sound hT (hte (fun x => x = te) rfl)
    cases hti : te.ti <;> rw [hti] at hk1 <;> first | exact hk1.elim | skip
    · refine OpGood.up (c := c) (opK_sound hT (fun h'' => hf h'') (nid := nid) (hte _ ?_))
      simp only [hti]
      exact hk1
    · refine buildA_ok hT (by rw [ht, hti]) ?_
      rw [ht]
      exact hk1
  | load t x => exact load_okV hT hk
  | store t x v => exact store_okV hT hk
  | indexAddr t x i => cases x with
    | global g => exact index_okG hT hk
    | _ => exact index_okV hT hk
  | index t x i => exact strAt_okV hT hk
  | slice t x lo hi mx => exact slice_okV hT hk
  | buildSlice t n ps => exact buildV_ok hT (hf rfl) hk
  | makeSlice t n m => exact make_okV hT (hf rfl) hk
  | makeMap t r => cases r with
    | none => exact makeMap_okV (hf rfl) hk
    | some _ => exact hk.elim
  | lookup t x y ok => exact lookA_okV hT hk
  | mapUpdate t x y z => exact mupA_okV hT hk
  | mapEntry t x y => exact ment_okV hT hk
  | entryStore t x y z => exact est_okV hk
  | range t x => exact range_okV hT (hf rfl) hk
  | next x s => exact next_okV hk
  | entry x => exact entry_okV hk
  | makeInterface t x => exact mkIfc_okV hT hk
  | typeAssert x xt t ok => exact ta_okV hT hk
  | convert a t x => exact conv_okV hT hf hk
  | binOp op t x y u => exact binD_okV hT hk
  | call cl =>
    obtain ⟨callee, xs, ats⟩ := cl
    cases callee with
    | builtin b =>
      have dflt : opK T F h nid (.call ⟨.builtin b, xs, ats⟩) (KVo c K) → OpGood P F h (.call ⟨.builtin b, xs, ats⟩) K := fun h' => OpGood.up (opK_sound hT (fun h'' => hf (by cases b <;> exact h'')) h')
      cases b with
      | len =>
        have hk0 : (match xs.toList, ats.toList with
          | [x], [t] => evK F x fun v => lenDV T (nthK h) v t c K
          | _, _ => False) := hk
        match hxs : xs.toList, hats : ats.toList with
        | [x], [t] =>
          rw [hxs, hats] at hk0
          obtain ⟨v, hk1, hv⟩ := evK_det F x _ (show evK F x _ from hk0)
          have h1 : lenV T (nthK h) t v (KVo c K) → OpGood P F h (.call ⟨.builtin .len, xs, ats⟩) K := fun h' => OpGood.up (len_okV hT (t := t) (by rw [hats]; rfl) hxs (hv _ h'))
          have h2 : opK T F h 0 (.call ⟨.builtin .len, xs, ats⟩) (KVo c K) → OpGood P F h (.call ⟨.builtin .len, xs, ats⟩) K := fun h' => OpGood.up (opK_sound hT (fun h'' => absurd h'' (by simp [allocs])) h')
          have h3 : ∀ te : TE, (∀ k : TE → Prop, k te → tyK T t k) → (match te.ti, [v] with
              | .str, [.str s] => KVo c K (.int .i64 (s.length : Int)) [] []
              | .slice _, [.nils] => KVo c K (.int .i64 0) [] []
              | .slice _, [.rs _ es] => KVo c K (.int .i64 (es.length : Int)) [] []
              | .slice _, [.ln n] => KVo c K (.int .i64 (n : Int)) [] []
              | .slice _, [.sl b] => nthK h b fun blk => match blk with
                | .row _ _ es => KVo c K (.int .i64 (es.length : Int)) [] [b]
                | _ => False
              | _, _ => False) → OpGood P F h (.call ⟨.builtin .len, xs, ats⟩) K := fun te hte h' => h2 (by
            show evsK F xs.toList _
            rw [hxs, hats]
            exact hv _ (hte _ h'))
          clear hk hk0 hv
          cases v <;> first
            | exact h1 hk1
            | (obtain ⟨te, hk3, hte⟩ := tyK_det T t _ (show tyK T t _ from hk1)
               refine h3 te hte ?_
               clear h3
               revert hk3
               generalize te.ti = ti
               intro hk3
               cases ti <;> first | exact hk3 | exact hk3.elim)
        | [], _ => rw [hxs] at hk0; exact hk0.elim
        | _ :: _ :: _, _ => rw [hxs] at hk0; exact hk0.elim
        | [_], [] => rw [hxs, hats] at hk0; exact hk0.elim
        | [_], _ :: _ :: _ => rw [hxs, hats] at hk0; exact hk0.elim
      | append =>
        have hk0 : (match xs.toList, ats.toList with
          | [x, y], [t, u] => evK F x fun s => evK F y fun v => appTV T c (nthK h) nid t u s v K
          | _, _ => False) := hk
        match hxs : xs.toList, hats : ats.toList with
        | [x, y], [t, u] =>
          rw [hxs, hats] at hk0
          exact appT_okV hT (hf rfl) hxs hats hk0
        | [], _ => rw [hxs] at hk0; exact hk0.elim
        | [_], _ => rw [hxs] at hk0; exact hk0.elim
        | _ :: _ :: _ :: _, _ => rw [hxs] at hk0; exact hk0.elim
        | [_, _], [] => rw [hxs, hats] at hk0; exact hk0.elim
        | [_, _], [_] => rw [hxs, hats] at hk0; exact hk0.elim
        | [_, _], _ :: _ :: _ :: _ => rw [hxs, hats] at hk0; exact hk0.elim
      | delete =>
        have hk0 : (match xs.toList, ats.toList with
          | [x, y], t :: _ => evK F x fun m => evK F y fun key => delV T (nthK h) t m key K
          | _, _ => False) := hk
        match hxs : xs.toList, hats : ats.toList with
        | [x, y], t :: r =>
          rw [hxs, hats] at hk0
          exact del_okV hT (t := t) (by rw [hats]; rfl) hxs hk0
        | [], _ => rw [hxs] at hk0; exact hk0.elim
        | [_], _ => rw [hxs] at hk0; exact hk0.elim
        | _ :: _ :: _ :: _, _ => rw [hxs] at hk0; exact hk0.elim
        | [_, _], [] => rw [hxs, hats] at hk0; exact hk0.elim
      | clear =>
        have hk0 : (match xs.toList, ats.toList with
          | [x], t :: _ => evK F x fun m => clrDV T c (nthK h) t m K
          | _, _ => False) := hk
        match hxs : xs.toList, hats : ats.toList with
        | [x], t :: r =>
          rw [hxs, hats] at hk0
          obtain ⟨v, hk1, hv⟩ := evK_det F x _ (show evK F x _ from hk0)
          have h1 : clrMapV T (nthK h) t v K → OpGood P F h (.call ⟨.builtin .clear, xs, ats⟩) K := fun h' => clrMap_okV hT (t := t) (by rw [hats]; rfl) hxs (hv _ h')
          have h2 : clrSlV T c (nthK h) t v K → OpGood P F h (.call ⟨.builtin .clear, xs, ats⟩) K := fun h' => clrSl_okV hT (t := t) (by rw [hats]; rfl) hxs (hv _ h')
          clear hk hk0 hv
          cases v <;> first | exact h1 hk1 | exact h2 hk1
        | [], _ => rw [hxs] at hk0; exact hk0.elim
        | _ :: _ :: _, _ => rw [hxs] at hk0; exact hk0.elim
        | [_], [] => rw [hxs, hats] at hk0; exact hk0.elim
      | cap =>
        have hk0 : (match xs.toList, ats.toList with
          | [x], [t] => evK F x fun v => capV T t v K
          | _, _ => False) := hk
        match hxs : xs.toList, hats : ats.toList with
        | [x], [t] =>
          rw [hxs, hats] at hk0
          exact cap_okV hT (t := t) (by rw [hats]; rfl) hxs hk0
        | [], _ => rw [hxs] at hk0; exact hk0.elim
        | _ :: _ :: _, _ => rw [hxs] at hk0; exact hk0.elim
        | [_], [] => rw [hxs, hats] at hk0; exact hk0.elim
        | [_], _ :: _ :: _ => rw [hxs, hats] at hk0; exact hk0.elim
      | unsafeSliceData =>
        have hk0 : (match xs.toList with
          | [x] => evK F x fun v => dataV (nthK h) v K
          | _ => False) := hk
        match hxs : xs.toList with
        | [x] => rw [hxs] at hk0; exact data_okV hxs hk0
        | [] => rw [hxs] at hk0; exact hk0.elim
        | _ :: _ :: _ => rw [hxs] at hk0; exact hk0.elim
      | unsafeString =>
        have hk0 : (match xs.toList, ats.toList with
          | [x, y], [t, _] => evK F x fun u => evK F y fun v => ustrV T (nthK h) t u v K
          | _, _ => False) := hk
        match hxs : xs.toList, hats : ats.toList with
        | [x, y], [t, u] =>
          rw [hxs, hats] at hk0
          have ha : ats = #[t, ats.getD 1 0] := by
            have : ats = #[t, u] := by rw [← Array.toArray_toList (xs := ats), hats]
            rw [this]; rfl
          exact ustr_okV hT ha hxs hk0
        | [], _ => rw [hxs] at hk0; exact hk0.elim
        | [_], _ => rw [hxs] at hk0; exact hk0.elim
        | _ :: _ :: _ :: _, _ => rw [hxs] at hk0; exact hk0.elim
        | [_, _], [] => rw [hxs, hats] at hk0; exact hk0.elim
        | [_, _], [_] => rw [hxs, hats] at hk0; exact hk0.elim
        | [_, _], _ :: _ :: _ :: _ => rw [hxs, hats] at hk0; exact hk0.elim
      | min =>
        obtain ⟨l, hk1, hl⟩ := evsE_det F xs.toList _ (show evsE (evK F) xs.toList _ from hk)
        refine dflt (hl _ ?_)
        match l with
        | [.int k x, .int _ y] => exact hk1
        | [] => exact hk1.elim
        | [a] => cases a <;> exact hk1.elim
        | a :: b :: d :: r => cases a <;> first | exact hk1.elim | (cases b <;> exact hk1.elim)
        | [a, b] => cases a <;> cases b <;> first | exact hk1 | exact hk1.elim
      | max =>
        obtain ⟨l, hk1, hl⟩ := evsE_det F xs.toList _ (show evsE (evK F) xs.toList _ from hk)
        refine dflt (hl _ ?_)
        match l with
        | [.int k x, .int _ y] => exact hk1
        | [] => exact hk1.elim
        | [a] => cases a <;> exact hk1.elim
        | a :: b :: d :: r => cases a <;> first | exact hk1.elim | (cases b <;> exact hk1.elim)
        | [a, b] => cases a <;> cases b <;> first | exact hk1 | exact hk1.elim
      | _ => exact hk.elim
    | value _ => exact hk.elim
    | invoke _ _ => exact hk.elim
  | _ => exact hk.elim
end
end Go.Sx

/- Regions whose order is drawn: the one run in the text's order serves every order. No statement of the seat is proved here. -/
namespace Go.Sx
section
variable {P : Program} {T : Tab}

def markOf (r : Rec) : Mk := (r.ws.map (·.1), r.rds)
theorem fstsK_sound {ws : Ws} : ∀ {k : List Nat → Prop}, fstsK ws k → k (ws.map (·.1)) := by
  induction ws with
  | nil => intro k h; exact h
  | cons p ws ih => intro k h; exact ih (k := fun l => k (p.1 :: l)) h
theorem marksK_sound {rs : List Rec} : ∀ {k : List Mk → Prop}, marksK rs k → k (rs.map markOf) := by
  induction rs with
  | nil => intro k h; exact h
  | cons r rs ih =>
    intro k h
    have h := fstsK_sound (show fstsK r.ws _ from h)
    exact ih (k := fun l => k (markOf r :: l)) h

def Ideal (ops : List Oper) (L : Nat → Bool) : Prop := ∀ (i : Nat) (o : Oper), ops[i]? = some o → L i = true → ∀ p ∈ predsOf o, L p = true
def ClosOK (ops : List Oper) (i : Nat) (c : Nat) : Prop := ∀ (L : Nat → Bool) (o : Oper), Ideal ops L → ops[i]? = some o → (∀ p ∈ predsOf o, L p = true) → ∀ j, c.testBit j = true → L j = true

theorem closAt_spec {cl : List Nat} (ps : List Nat) {j : Nat} : ∀ {m : Nat}, (ps.foldl (fun m j => m ||| 2 ^ j ||| cl.getD j 0) m).testBit j = true → m.testBit j = true ∨ ∃ p ∈ ps, p = j ∨ (cl.getD p 0).testBit j = true := by
  induction ps with
  | nil => intro m h; exact .inl h
  | cons p ps ih =>
    intro m h
    rcases ih h with h | ⟨q, hq, h⟩
    · rw [Nat.testBit_or, Nat.testBit_or, Nat.testBit_two_pow] at h
      simp only [Bool.or_eq_true, decide_eq_true_eq] at h
      rcases h with (h | h) | h
      · exact .inl h
      · exact .inr ⟨p, by simp, .inl h⟩
      · exact .inr ⟨p, by simp, .inr h⟩
    · exact .inr ⟨q, by simp [hq], h⟩

theorem pairsB_spec {ops : Array Oper} {c : Nat} {oi : Oper} {mi : Mk} (l : List (Oper × Mk)) : ∀ {k : Nat}, pairsB ops c oi mi k l = true → ∀ (j : Nat) (x : Oper × Mk), l[j]? = some x → c.testBit (k + j) = true ∨ apartB ops x.1 oi x.2 mi = true := by
  induction l with
  | nil => intro k _ j x hx; simp at hx
  | cons y l ih =>
    intro k h j x hx
    simp only [pairsB, Bool.and_eq_true, Bool.or_eq_true] at h
    cases j with
    | zero => simp at hx; subst hx; exact h.1
    | succ j =>
      have := ih h.2 j x (by simpa using hx)
      rwa [show k + 1 + j = k + (j + 1) by omega] at this

/-- What the check says of operation i. -/
def PairsOK (ops : Array Oper) (Z : List (Oper × Mk)) (i : Nat) (x : Oper × Mk) : Prop :=
  (∀ p ∈ predsOf x.1, p < i) ∧ ∃ c, ClosOK (Z.map (·.1)) i c ∧ ∀ (j : Nat) (y : Oper × Mk), j < i → Z[j]? = some y → c.testBit j = true ∨ apartB ops y.1 x.1 y.2 x.2 = true

theorem indepGo_spec {ops : Array Oper} (rest : List (Oper × Mk)) : ∀ {done : List (Oper × Mk)} {cl : List Nat}, cl.length = done.length →
    (∀ i c, cl[i]? = some c → ClosOK ((done ++ rest).map (·.1)) i c) → indepGo ops done cl rest = true →
    ∀ (i : Nat) (x : Oper × Mk), done.length ≤ i → (done ++ rest)[i]? = some x → PairsOK ops (done ++ rest) i x := by
  induction rest with
  | nil => intro done cl _ _ _ i x hi hx; rw [List.append_nil] at hx; rw [List.getElem?_eq_none hi] at hx; simp at hx
  | cons y rest ih =>
    intro done cl hlen hcl h i x hi hx
    simp only [indepGo, Bool.and_eq_true, List.all_eq_true, decide_eq_true_eq] at h
    obtain ⟨⟨h1, h2⟩, h3⟩ := h
    have hy : (done ++ y :: rest)[done.length]? = some y := by simp
    have hc : ClosOK ((done ++ y :: rest).map (·.1)) done.length (closAt cl (predsOf y.1)) := by
      intro L o hL ho hp j hj
      rw [List.getElem?_map, hy] at ho
      simp at ho
      subst ho
      rcases closAt_spec (predsOf y.1) hj with h0 | ⟨p, hpm, h0⟩
      · simp at h0
      · rcases h0 with h0 | h0
        · subst h0; exact hp _ hpm
        · have hlt : p < cl.length := h1 p hpm
          have hg : cl[p]? = some (cl.getD p 0) := by simp [List.getD, List.getElem?_eq_getElem hlt]
          have hlt' : p < done.length := by rw [← hlen]; exact hlt
          have ho' : ((done ++ y :: rest).map (·.1))[p]? = some (done[p]'hlt').1 := by
            rw [List.getElem?_map, List.getElem?_append_left hlt', List.getElem?_eq_getElem hlt']; rfl
          exact hcl p _ hg L _ hL ho' (hL p _ ho' (hp p hpm)) j h0
    by_cases he : i = done.length
    · subst he
      rw [hy] at hx
      simp at hx
      subst hx
      refine ⟨fun p hp => by rw [← hlen]; exact h1 p hp, _, hc, fun j z hj hz => ?_⟩
      rw [List.getElem?_append_left hj] at hz
      have := pairsB_spec done h2 j z hz
      simpa using this
    · have e : done ++ y :: rest = (done ++ [y]) ++ rest := by simp
      rw [e] at hx hcl hc ⊢
      refine ih (by simp [hlen]) (fun k c hk => ?_) h3 i x (by simp; omega) hx
      rw [List.getElem?_append] at hk
      split at hk
      · exact hcl k c hk
      · have hk0 : k - cl.length = 0 := by
          have := (List.getElem?_eq_some_iff.1 hk).1
          simp at this; omega
        rw [hk0] at hk
        simp at hk
        subst hk
        rw [show k = done.length by omega]
        exact hc

/-! ### the frame, the heap in the text's order -/
variable {ops : Array Oper} {recs : List Rec} {F0 : Fr} {h0 : Hp}

theorem Run.at (l : List Oper) : ∀ {rs : List Rec} {k : Nat} {F' : Fr} {h' : Hp}, (∀ i, l[i]? = ops.toList[k + i]?) → (∀ i, rs[i]? = recs[k + i]?) →
    Run P ops (FL ops.toList recs F0 (fun _ => true) k) (HL recs h0 (fun _ => true) k) l rs F' h' →
    rs.length = l.length ∧ (∀ (i : Nat) (o : Oper) (r : Rec), l[i]? = some o → rs[i]? = some r → Good P ops (FL ops.toList recs F0 (fun _ => true) (k + i)) (HL recs h0 (fun _ => true) (k + i)) o r) ∧
      F' = FL ops.toList recs F0 (fun _ => true) (k + l.length) ∧ h' = HL recs h0 (fun _ => true) (k + l.length) := by
  induction l with
  | nil => intro rs k F' h' _ _ hr; cases hr; exact ⟨rfl, by simp, rfl, rfl⟩
  | cons o l ih =>
    intro rs k F' h' ho hrs hr
    cases hr with
    | @cons _ _ _ _ _ _ r rs hg hr =>
      have e1 : dstAt ops.toList k = o.dst := by
        have := ho 0
        simp only [List.getElem?_cons_zero, Nat.add_zero] at this
        simp [dstAt, ← this]
      have e2 : recAt recs k = r := by
        have := hrs 0
        simp only [List.getElem?_cons_zero, Nat.add_zero] at this
        simp [recAt, List.getD, ← this]
      have hr' : Run P ops (FL ops.toList recs F0 (fun _ => true) (k + 1)) (HL recs h0 (fun _ => true) (k + 1)) l rs F' h' := by
        simp only [FL, HL, if_true, e1, e2]; exact hr
      obtain ⟨i0, i1, i2, i3⟩ := ih (fun i => by have := ho (i + 1); rw [List.getElem?_cons_succ] at this; rw [this]; congr 1; omega)
        (fun i => by have := hrs (i + 1); rw [List.getElem?_cons_succ] at this; rw [this]; congr 1; omega) hr'
      refine ⟨by simp [i0], fun i o' r' h1 h2 => ?_, by rw [i2]; congr 1; simp; omega, by rw [i3]; congr 1; simp; omega⟩
      cases i with
      | zero => simp at h1 h2; subst h1; subst h2; exact hg
      | succ i =>
        have := i1 i o' r' (by simpa using h1) (by simpa using h2)
        rwa [show k + 1 + i = k + (i + 1) by omega] at this

theorem FL_stop {opsl : List Oper} {i : Nat} : ∀ d, FL opsl recs F0 (fun j => decide (j < i)) (i + d) = FL opsl recs F0 (fun j => decide (j < i)) i
  | 0 => rfl
  | d + 1 => by
    have ih := FL_stop (opsl := opsl) (i := i) d
    show FL opsl recs F0 _ (i + d + 1) = _
    simp only [FL]
    rw [if_neg (by simp), ih]
theorem HL_stop {i : Nat} : ∀ d, HL recs h0 (fun j => decide (j < i)) (i + d) = HL recs h0 (fun j => decide (j < i)) i
  | 0 => rfl
  | d + 1 => by
    have ih := HL_stop (i := i) d
    show HL recs h0 _ (i + d + 1) = _
    simp only [HL]
    rw [if_neg (by simp), ih]

theorem apartB_spec {oj oi : Oper} {mj mi : Mk} (h : apartB ops oj oi mj mi = true) :
    ((∀ d, oj.dst = some d → d ∉ oi.looksAt ops) ∧ (∀ d, oj.dst = some d → oi.dst ≠ some d) ∧ (∀ d, oi.dst = some d → d ∉ oj.looksAt ops)) ∧
    (∀ x ∈ mj.1, x ∉ mi.2) ∧ (∀ x ∈ mi.1, x ∉ mj.2) := by
  simp only [apartB, Bool.and_eq_true, Bool.not_eq_true'] at h
  refine ⟨Oper.apart_spec h.1.1, fun x hx hm => ?_, fun x hx hm => ?_⟩
  · have := h.1.2
    simp only [meetB, List.any_eq_false, List.contains_iff_mem] at this
    exact this x hx hm
  · have := h.2
    simp only [meetB, List.any_eq_false, List.contains_iff_mem] at this
    exact this x hx hm

structure Plan (P : Program) (ops : Array Oper) (recs : List Rec) (F0 : Fr) (h0 : Hp) : Prop where
  len : recs.length = ops.size
  good : ∀ (i : Nat) (o : Oper) (r : Rec), ops[i]? = some o → recs[i]? = some r → Good P ops (FL ops.toList recs F0 (fun _ => true) i) (HL recs h0 (fun _ => true) i) o r
  pairs : ∀ (i : Nat) (o : Oper) (r : Rec), ops[i]? = some o → recs[i]? = some r → PairsOK ops (ops.toList.zip (recs.map markOf)) i (o, markOf r)

section plan
variable (hp : Plan P ops recs F0 h0) {L : Nat → Bool}
include hp

theorem Plan.rcd {i : Nat} {o : Oper} (hi : ops[i]? = some o) : recs[i]? = some (recAt recs i) := by
  have : i < recs.length := by rw [hp.len]; exact (Array.getElem?_eq_some_iff.1 hi).1
  simp [recAt, List.getD, List.getElem?_eq_getElem this]
theorem Plan.map : (ops.toList.zip (recs.map markOf)).map (·.1) = ops.toList := by
  rw [List.map_fst_zip]
  simp [hp.len]
theorem Plan.zip {i : Nat} {o : Oper} (hi : ops[i]? = some o) : (ops.toList.zip (recs.map markOf))[i]? = some (o, markOf (recAt recs i)) := by
  rw [List.getElem?_zip_eq_some]
  exact ⟨by rw [Array.getElem?_toList]; exact hi, by rw [List.getElem?_map, hp.rcd hi]; rfl⟩
/-- Two operations of which the earlier is not carried out and the later is, or is ready, are apart. -/
theorem Plan.apart (hL : Ideal ops.toList L) {i j : Nat} {oi oj : Oper} (hij : j < i) (hi : ops[i]? = some oi) (hj : ops[j]? = some oj) (hpre : ∀ p ∈ predsOf oi, L p = true) (hjL : L j = false) :
    apartB ops oj oi (markOf (recAt recs j)) (markOf (recAt recs i)) = true := by
  obtain ⟨_, c, hc, hpair⟩ := hp.pairs i oi _ hi (hp.rcd hi)
  rw [hp.map] at hc
  rcases hpair j _ hij (hp.zip hj) with h | h
  · have := hc L oi hL (by rw [Array.getElem?_toList]; exact hi) hpre j h
    rw [hjL] at this; simp at this
  · exact h

theorem Plan.slot (hL : Ideal ops.toList L) {i : Nat} {oi : Oper} (hi : ops[i]? = some oi) (hpre : ∀ p ∈ predsOf oi, L p = true) (hiL : L i = false) {t : Nat} (ht : t ∈ oi.looksAt ops) :
    (FL ops.toList recs F0 L ops.size)[t]? = (FL ops.toList recs F0 (fun _ => true) i)[t]? := by
  have hlt : i < ops.size := (Array.getElem?_eq_some_iff.1 hi).1
  have e1 : (FL ops.toList recs F0 (fun j => decide (j < i)) i)[t]? = (FL ops.toList recs F0 (fun _ => true) i)[t]? := FL_same i fun j hj _ => by simp [hj]
  have e2 : FL ops.toList recs F0 (fun j => decide (j < i)) ops.size = FL ops.toList recs F0 (fun j => decide (j < i)) i := by
    have := FL_stop (opsl := ops.toList) (recs := recs) (F0 := F0) (i := i) (ops.size - i)
    rwa [show i + (ops.size - i) = ops.size by omega] at this
  rw [← e1, ← e2]
  refine FL_same ops.size fun j hj hd => ?_
  have hoj : ops[j]? = some ops[j] := Array.getElem?_eq_getElem hj
  have hdj : ops[j].dst = some t := by
    simp only [dstAt, Array.getElem?_toList, hoj] at hd; exact hd
  rcases Nat.lt_trichotomy j i with h | h | h
  · simp only [h, decide_true]
    cases hc : L j with
    | true => rfl
    | false => exact absurd ht ((apartB_spec (hp.apart hL h hi hoj hpre hc)).1.1 t hdj)
  · subst h; rw [hiL]; simp
  · simp only [show ¬ j < i by omega, decide_false]
    cases hc : L j with
    | false => rfl
    | true => exact absurd ht ((apartB_spec (hp.apart hL h hoj hi (hL j _ (by rw [Array.getElem?_toList]; exact hoj) hc) hiL)).1.2.2 t hdj)

theorem Plan.cell (hL : Ideal ops.toList L) {i : Nat} {oi : Oper} (hi : ops[i]? = some oi) (hpre : ∀ p ∈ predsOf oi, L p = true) (hiL : L i = false) {t : Nat} (ht : t ∈ (recAt recs i).rds) :
    (HL recs h0 L ops.size)[t]? = (HL recs h0 (fun _ => true) i)[t]? := by
  have hlt : i < ops.size := (Array.getElem?_eq_some_iff.1 hi).1
  have e1 : (HL recs h0 (fun j => decide (j < i)) i)[t]? = (HL recs h0 (fun _ => true) i)[t]? := HL_same i fun j hj _ => by simp [hj]
  have e2 : HL recs h0 (fun j => decide (j < i)) ops.size = HL recs h0 (fun j => decide (j < i)) i := by
    have := HL_stop (recs := recs) (h0 := h0) (i := i) (ops.size - i)
    rwa [show i + (ops.size - i) = ops.size by omega] at this
  rw [← e1, ← e2]
  refine HL_same ops.size fun j hj ⟨p, hpm, hpt⟩ => ?_
  have hoj : ops[j]? = some ops[j] := Array.getElem?_eq_getElem hj
  have hmem : t ∈ (markOf (recAt recs j)).1 := List.mem_map.2 ⟨p, hpm, hpt⟩
  rcases Nat.lt_trichotomy j i with h | h | h
  · simp only [h, decide_true]
    cases hc : L j with
    | true => rfl
    | false => exact absurd ht ((apartB_spec (hp.apart hL h hi hoj hpre hc)).2.1 t hmem)
  · subst h; rw [hiL]; simp
  · simp only [show ¬ j < i by omega, decide_false]
    cases hc : L j with
    | false => rfl
    | true => exact absurd ht ((apartB_spec (hp.apart hL h hoj hi (hL j _ (by rw [Array.getElem?_toList]; exact hoj) hc) hiL)).2.2 t hmem)

theorem Plan.addF (hL : Ideal ops.toList L) {i : Nat} {oi : Oper} (hi : ops[i]? = some oi) (hiL : L i = false) :
    FL ops.toList recs F0 (add L i) ops.size = setD (FL ops.toList recs F0 L ops.size) oi.dst (recAt recs i).s := by
  have hlt : i < ops.size := (Array.getElem?_eq_some_iff.1 hi).1
  have e : dstAt ops.toList i = oi.dst := by simp [dstAt, hi]
  have := FL_add (ops := ops.toList) (recs := recs) (F0 := F0) hiL ops.size fun j hij hj hjL d hd => by
    have hoj : ops[j]? = some ops[j] := Array.getElem?_eq_getElem hj
    have := (apartB_spec (hp.apart hL hij hoj hi (hL j _ (by rw [Array.getElem?_toList]; exact hoj) hjL) hiL)).1.2.1 d (by rw [← e]; exact hd)
    simp only [dstAt, Array.getElem?_toList, hoj]; exact this
  rw [this, if_pos hlt, e]
theorem Plan.addH (hL : Ideal ops.toList L) {i : Nat} {oi : Oper} (hi : ops[i]? = some oi) (hiL : L i = false) :
    HL recs h0 (add L i) ops.size = upd (recAt recs i).ws (HL recs h0 L ops.size) := by
  have hlt : i < ops.size := (Array.getElem?_eq_some_iff.1 hi).1
  have := HL_add (recs := recs) (h0 := h0) hiL ops.size fun j hij hj hjL p hpm q hqm he => by
    have hoj : ops[j]? = some ops[j] := Array.getElem?_eq_getElem hj
    have h1 := (apartB_spec (hp.apart hL hij hoj hi (hL j _ (by rw [Array.getElem?_toList]; exact hoj) hjL) hiL)).2.1 p.1 (List.mem_map.2 ⟨p, hpm, rfl⟩)
    refine h1 ?_
    rw [he]
    exact (hp.good j _ _ hoj (hp.rcd hoj)).sub q hqm
  rw [this, if_pos hlt]
end plan
end
end Go.Sx

/- Regions whose order is drawn: the executor is sound. No statement of the seat is proved here. -/
namespace Go.Sx
section
variable {P : Program} {T : Tab} {ops : Array Oper} {recs : List Rec} {F0 : Fr} {h0 : Hp}

theorem Run.plan {Ff : Fr} {hf : Hp} (hr : Run P ops F0 h0 ops.toList recs Ff hf) (hi : indepB ops (recs.map markOf) = true) :
    Plan P ops recs F0 h0 ∧ Ff = FL ops.toList recs F0 (fun _ => true) ops.size ∧ hf = HL recs h0 (fun _ => true) ops.size := by
  have hr0 : Run P ops (FL ops.toList recs F0 (fun _ => true) 0) (HL recs h0 (fun _ => true) 0) ops.toList recs Ff hf := hr
  obtain ⟨a1, a2, a3, a4⟩ := hr0.at (ops := ops) (recs := recs) ops.toList (fun i => by rw [Nat.zero_add]) (fun i => by rw [Nat.zero_add])
  have hlen : recs.length = ops.size := by rw [a1]; simp
  refine ⟨⟨hlen, fun i o r ho hrc => by have := a2 i o r (by rw [Array.getElem?_toList]; exact ho) hrc; rwa [Nat.zero_add] at this, fun i o r ho hrc => ?_⟩, by rw [a3]; simp, by rw [a4]; simp⟩
  unfold indepB at hi
  rw [Bool.and_eq_true] at hi
  have := indepGo_spec (ops := ops) (ops.toList.zip (recs.map markOf)) (done := []) (cl := []) rfl (by simp) hi.2 i (o, markOf r) (Nat.zero_le _) (by
    rw [List.nil_append, List.getElem?_zip_eq_some]
    exact ⟨by rw [Array.getElem?_toList]; exact ho, by rw [List.getElem?_map, hrc]; rfl⟩)
  simpa using this

theorem mem_preds {o : Oper} {e : Edge} (he : e ∈ o.after) (hb : Region.binds .any e = true) : e.on ∈ predsOf o := by
  unfold predsOf
  exact List.mem_filterMap.2 ⟨e, Array.mem_toList_iff.2 he, by simp [hb]⟩
theorem preds_mem {o : Oper} {p : Nat} (h : p ∈ predsOf o) : ∃ e ∈ o.after, Region.binds .any e = true ∧ e.on = p := by
  unfold predsOf at h
  obtain ⟨e, he, h⟩ := List.mem_filterMap.1 h
  cases hb : Region.binds .any e
  · simp [hb] at h
  · simp [hb] at h; exact ⟨e, Array.mem_toList_iff.1 he, hb, h⟩

def listedB (listed : Array Bool) (j : Nat) : Bool := listed.getD j false

theorem listed_add {listed : Array Bool} {i : Nat} (hi : i < listed.size) : listedB (listed.setIfInBounds i true) = add (listedB listed) i := by
  funext j
  simp only [listedB, add]
  by_cases h : i = j
  · subst h; simp [hi]
  · rw [getD_set_ne false h, show (j == i) = false from by simp; omega]; simp

theorem all_of_none (hp : Plan P ops recs F0 h0) {listed : Array Bool} (hs : listed.size = ops.size) (hr : Region.ready .any ops listed = []) : ∀ i, i < ops.size → listedB listed i = true := by
  intro i
  induction i using Nat.strongRecOn with
  | _ i ih =>
    intro hi
    cases hc : listedB listed i with
    | true => rfl
    | false =>
      have hoi : ops[i]? = some ops[i] := Array.getElem?_eq_getElem hi
      have hmem : i ∈ Region.ready .any ops listed := by
        rw [mem_ready]
        refine ⟨?_, _, hoi, fun e he hb => ?_⟩
        · have : listedB listed i = listed.getD i true := by simp [listedB, Array.getD_eq_getD_getElem?, show i < listed.size by omega]
          rw [← this]; exact hc
        · have hlt := (hp.pairs i _ _ hoi (hp.rcd hoi)).1 e.on (mem_preds he hb)
          exact ih e.on hlt (by omega)
      rw [hr] at hmem; simp at hmem

theorem draw_sound (hp : Plan P ops recs F0 h0) {m : Nat} {X : Nat → Prop} {w0 : World} {σ0 : Sg} {K : Fr → Hp → Prop} (hK : K (FL ops.toList recs F0 (fun _ => true) ops.size) (HL recs h0 (fun _ => true) ops.size)) :
    ∀ (fuel : Nat) (listed : Array Bool) (U : List Nat) (a : Act) (w : World) (σ : Sg), listed.size = ops.size → Ideal ops.toList (listedB listed) → U.length ≤ fuel → (∀ i, i < ops.size → listedB listed i = false → i ∈ U) →
      a.defers = [] → Inv w X σ (HL recs h0 (listedB listed) ops.size) → FRep w (Ex X σ) σ (FL ops.toList recs F0 (listedB listed) ops.size) a.tmps → Step m w0 σ0 w σ →
      wpAny P .any ops (SPost m X w0 σ0 fun x F h => x = .normal ∧ K F h) fuel listed a w := by
  intro fuel
  have done : ∀ (listed : Array Bool) (a : Act) (w : World) (σ : Sg), (∀ i, i < ops.size → listedB listed i = true) →
      a.defers = [] → Inv w X σ (HL recs h0 (listedB listed) ops.size) → FRep w (Ex X σ) σ (FL ops.toList recs F0 (listedB listed) ops.size) a.tmps → Step m w0 σ0 w σ →
      SPost m X w0 σ0 (fun x F h => x = .normal ∧ K F h) .normal a w := by
    intro listed a w σ hall hd hI hF hS
    have e1 : FL ops.toList recs F0 (listedB listed) ops.size = FL ops.toList recs F0 (fun _ => true) ops.size := by
      apply List.ext_getElem?
      intro t
      exact FL_same ops.size fun j hj _ => hall j hj
    have e2 : HL recs h0 (listedB listed) ops.size = HL recs h0 (fun _ => true) ops.size := by
      apply List.ext_getElem?
      intro t
      exact HL_same ops.size fun j hj _ => hall j hj
    rw [e1] at hF; rw [e2] at hI
    exact ⟨hd, .normal, _, _, σ, rfl, ⟨rfl, hK⟩, hI, hF, hS⟩
  induction fuel with
  | zero =>
    intro listed U a w σ hs hL hU hun hd hI hF hS
    have hU : U = [] := List.length_eq_zero_iff.1 (by omega)
    subst hU
    have hall : ∀ i, i < ops.size → listedB listed i = true := fun i hi => by
      cases hc : listedB listed i with
      | true => rfl
      | false => exact absurd (hun i hi hc) (by simp)
    refine ⟨?_, done listed a w σ hall hd hI hF hS⟩
    rw [List.eq_nil_iff_forall_not_mem]
    intro i hi
    rw [mem_ready] at hi
    obtain ⟨h1, o, ho, _⟩ := hi
    have hlt : i < ops.size := (Array.getElem?_eq_some_iff.1 ho).1
    have := hall i hlt
    simp [listedB, Array.getD_eq_getD_getElem?, show i < listed.size by omega] at this h1
    rw [this] at h1; simp at h1
  | succ fuel ih =>
    intro listed U a w σ hs hL hU hun hd hI hF hS
    refine ⟨fun hr => done listed a w σ (all_of_none hp hs hr) hd hI hF hS, fun i hi => ?_⟩
    rw [mem_ready] at hi
    obtain ⟨h1, o, ho, hpre⟩ := hi
    have hlt : i < ops.size := (Array.getElem?_eq_some_iff.1 ho).1
    have hiL : listedB listed i = false := by
      simp [listedB, Array.getD_eq_getD_getElem?, show i < listed.size by omega] at h1 ⊢; exact h1
    have hpre' : ∀ p ∈ predsOf o, listedB listed p = true := fun p hpm => by
      obtain ⟨e, he, hb, hep⟩ := preds_mem hpm
      rw [← hep]; exact hpre e he hb
    have hgood := hp.good i o _ ho (hp.rcd ho)
    have hlooks : ∀ t ∈ o.looksAt ops, ∀ s, (FL ops.toList recs F0 (fun _ => true) i)[t]? = some s → ∃ v, a.tmps[t]? = some v ∧ Rep w (Ex X σ) σ s v := fun t ht s hts => by
      rw [← hp.slot hL ho hpre' hiL ht] at hts
      exact hF.get hts
    have hcell : ∀ r ∈ (recAt recs i).rds, (HL recs h0 (listedB listed) ops.size)[r]? = (HL recs h0 (fun _ => true) i)[r]? := fun r hr => hp.cell hL ho hpre' hiL hr
    have hs' : (listed.setIfInBounds i true).size = ops.size := by simp [hs]
    have hL' : Ideal ops.toList (listedB (listed.setIfInBounds i true)) := by
      rw [listed_add (by omega)]
      intro j oj hoj hjL p hpm
      simp only [add, Bool.or_eq_true, beq_iff_eq] at hjL ⊢
      rcases hjL with hjL | hjL
      · exact .inl (hL j oj hoj hjL p hpm)
      · subst hjL
        rw [Array.getElem?_toList, ho] at hoj
        simp at hoj; subst hoj
        exact .inl (hpre' p hpm)
    have hmemU : i ∈ U := hun i hlt hiL
    have hU' : (U.erase i).length ≤ fuel := by
      rw [List.length_erase_of_mem hmemU]; omega
    have hun' : ∀ j, j < ops.size → listedB (listed.setIfInBounds i true) j = false → j ∈ U.erase i := fun j hj hjL => by
      rw [listed_add (by omega)] at hjL
      simp only [add, Bool.or_eq_false_iff, beq_eq_false_iff_ne] at hjL
      exact (List.mem_erase_of_ne hjL.2).2 (hun j hj hjL.1)
    have hput : ∀ (v : Value) (w' : World) (σ' : Sg), FRep w' (Ex X σ') σ' (FL ops.toList recs F0 (listedB listed) ops.size) a.tmps → Rep w' (Ex X σ') σ' (recAt recs i).s v →
        FRep w' (Ex X σ') σ' (FL ops.toList recs F0 (listedB (listed.setIfInBounds i true)) ops.size) (a.put o.dst v).tmps ∧ (a.put o.dst v).defers = [] := by
      intro v w' σ' hF' hr
      rw [listed_add (by omega), hp.addF hL ho hiL]
      cases o.dst with
      | none => exact ⟨hF', hd⟩
      | some d => exact ⟨hF'.set hr, hd⟩
    unfold wpOp
    rw [ho]
    simp only []
    rcases hgood.go w X σ _ a hI (by rw [HL_len, HL_len]) hlooks hcell with ⟨hw, hop⟩ | ⟨hw, hsu, hwu⟩
    · rw [if_pos hw]
      refine .inl (wp_of_done hop fun v w' ⟨σ', hr, hI', hS', _⟩ => ?_)
      obtain ⟨h3, h4⟩ := hput v w' σ' (hF.step hS' (Nat.le_refl _)) hr
      refine ih _ _ _ w' σ' hs' hL' hU' hun' h4 ?_ h3 (hS.trans hS'.any)
      rw [listed_add (by omega), hp.addH hL ho hiL]
      exact hI'
    · rw [if_neg (by rw [hw]; simp)]
      obtain ⟨h3, h4⟩ := hput Go.undef w σ hF (by rw [hsu]; exact .undef)
      refine ih _ _ _ w σ hs' hL' hU' hun' h4 ?_ h3 hS
      rw [listed_add (by omega), hp.addH hL ho hiL, hwu]
      exact hI

theorem resvK_sound (l : List Oper) : ∀ {h : Hp} {k : List Nat → Hp → Prop}, resvK T l h k → ∃ ns h', k ns h' ∧
    ∀ (w : World) (X : Nat → Prop) (σ : Sg), Inv w X σ h → ∃ σ', Inv w X σ' h' ∧ Step σ.length w σ w σ' := by
  induction l with
  | nil => intro h k hk; exact ⟨[], h, hk, fun w X σ hI => ⟨σ, hI, .refl _ _ _⟩⟩
  | cons o l ih =>
    intro h k hk
    have hk : (match needs T o.op with
      | true => idK h supply fun n => appK h [.fresh] fun h' => resvK T l h' fun ns h'' => k (n :: ns) h''
      | false => resvK T l h fun ns h'' => k (0 :: ns) h'') := hk
    cases hn : needs T o.op with
    | true =>
      rw [hn] at hk
      obtain ⟨n, _, hk⟩ := idK_sound hk
      have hk := appK_sound hk
      obtain ⟨ns, h', hk, hs⟩ := ih hk
      refine ⟨_, h', hk, fun w X σ hI => ?_⟩
      obtain ⟨hI1, hS1⟩ := hI.fresh
      obtain ⟨σ', hI', hS'⟩ := hs w X _ hI1
      exact ⟨σ', hI', hS1.trans (hS'.le (by simp))⟩
    | false =>
      rw [hn] at hk
      obtain ⟨ns, h', hk, hs⟩ := ih hk
      exact ⟨_, h', hk, hs⟩

theorem Inv.heap {w w' : World} {X : Nat → Prop} {σ : Sg} {h : Hp} (hI : Inv w X σ h) (he : w'.heap = w.heap) : Inv w' X σ h := by
  have hmono : ∀ (E : Nat → Prop) (τ : Sg) (s : SV) (v : Value), Rep w E τ s v → Rep w' E τ s v := fun E τ s v hr =>
    hr.mono τ (fun g _ _ => by rw [he]) (by rw [he]; exact Nat.le_refl _) (fun _ _ h => h) (fun i e h _ => .inl h)
  refine ⟨hI.len, fun i b e hb hee => ?_, fun i e g h1 h2 => by rw [he]; exact hI.lt i e g h1 h2, hI.inj, hI.dis, fun g hx => by rw [he]; exact hI.xlt g hx⟩
  have := hI.ok i b e hb hee
  cases b <;> cases e <;> simp only [BlkOK] at this ⊢
  case fix.fix =>
    obtain ⟨vs, h1, h2, h3⟩ := this
    exact ⟨vs, by rw [he]; exact h1, h2, fun i s v hs hv => ⟨hmono _ _ _ _ (h3 i s v hs hv).1, (h3 i s v hs hv).2⟩⟩
  case row.row =>
    obtain ⟨h1, h2, h3, h4, vs, h5, h6, h7⟩ := this
    refine ⟨h1, h2, h3, h4, vs, h5.same (by rw [he]), h6, fun i e he' => ⟨(h7 i e he').1, fun j s hs => ?_⟩⟩
    obtain ⟨v, a, b, c⟩ := (h7 i e he').2 j s hs
    exact ⟨v, a, hmono _ _ _ _ b, c⟩
  case prow.row =>
    obtain ⟨h1, h2, h3, h4, vs, h5, h6, h7⟩ := this
    refine ⟨h1, h2, h3, h4, vs, h5.same (by rw [he]), h6, fun i e he' => ⟨(h7 i e he').1, fun j s hs => ?_⟩⟩
    obtain ⟨v, a, b, c⟩ := (h7 i e he').2 j s hs
    exact ⟨v, a, hmono _ _ _ _ b, c⟩
  case mapB.obj =>
    obtain ⟨ms, h1, h2, h3⟩ := this
    exact ⟨ms, by rw [he]; exact h1, h2, fun i e m he' hm' => ⟨hmono _ _ _ _ (h3 i e m he' hm').1, hmono _ _ _ _ (h3 i e m he' hm').2.1, (h3 i e m he' hm').2.2⟩⟩
  case pmap.obj =>
    obtain ⟨ms, h1, h2, h3⟩ := this
    exact ⟨ms, by rw [he]; exact h1, h2, fun i e m he' hm' => ⟨hmono _ _ _ _ (h3 i e m he' hm').1, hmono _ _ _ _ (h3 i e m he' hm').2.1, (h3 i e m he' hm').2.2⟩⟩
  case mit.obj =>
    obtain ⟨r, h1, h2⟩ := this
    exact ⟨r, by rw [he]; exact h1, h2⟩
  case sit.obj => rw [he]; exact this
  case tail.row =>
    obtain ⟨h1, h2, h3, h4, vs, h5, h6, h7⟩ := this
    exact ⟨h1, h2, h3, h4, vs, h5.same (by rw [he]), h6, fun i e he' => ⟨(h7 i e he').1, fun j s hs => by obtain ⟨v, a, b, c⟩ := (h7 i e he').2 j s hs; exact ⟨v, a, hmono _ _ _ _ b, c⟩⟩⟩
  case glob.fix =>
    obtain ⟨h0, vs, h1, h2, h3⟩ := this
    exact ⟨h0, vs, by rw [he]; exact h1, h2, fun i s v hs hv => ⟨hmono _ _ _ _ (h3 i s v hs hv).1, (h3 i s v hs hv).2⟩⟩
  all_goals exact this

/-- A REGION WHOSE ORDER IS DRAWN: one run in the text's order, and what is not ordered apart. -/
theorem DrawG.of (hm : P.follows .mixedOrders = true) (hT : TabOK P T) {m : Nat} {id : Nat} {F : Fr} {h : Hp} {K : Fr → Hp → Prop} (hk : drawK P T ops F h K) : DrawG P m id ops F h K := by
  refine ⟨fun w X σ tmps hI hF => wp_region_any hm ?_⟩
  obtain ⟨ids, h', hk, hres⟩ := resvK_sound ops.toList hk
  obtain ⟨rs, F', h'', hk, hrun⟩ := dopsK_sound hT ops.toList hk
  obtain ⟨hind, hk⟩ := marksK_sound hk
  obtain ⟨hp, e1, e2⟩ := hrun.plan hind
  subst e1; subst e2
  obtain ⟨σ1, hI1, hS1⟩ := hres w X σ hI
  have hF1 := hF.step hS1 (Nat.le_refl _)
  have hS2 : Step σ1.length w σ1 { w with drawn := w.drawn + 1 } σ1 := ⟨rfl, rfl, rfl, Nat.le_refl _, fun _ _ _ => rfl, fun _ h _ => h, fun _ _ _ h _ => .inl h⟩
  have hF2 := hF1.step hS2 (Nat.le_refl _)
  have hI2 : Inv { w with drawn := w.drawn + 1 } X σ1 h' := hI1.heap rfl
  have hL0 : ∀ k, FL ops.toList rs F (listedB (Array.replicate ops.size false)) k = F := by
    intro k
    induction k with
    | zero => rfl
    | succ k ih =>
      simp only [FL]
      rw [if_neg, ih]
      simp only [listedB, Array.getD_eq_getD_getElem?, Array.getElem?_replicate]
      split <;> simp
  have hH0 : ∀ k, HL rs h' (listedB (Array.replicate ops.size false)) k = h' := by
    intro k
    induction k with
    | zero => rfl
    | succ k ih =>
      simp only [HL]
      rw [if_neg, ih]
      simp only [listedB, Array.getD_eq_getD_getElem?, Array.getElem?_replicate]
      split <;> simp
  have hbf : ∀ i, listedB (Array.replicate ops.size false) i = false := fun i => by
    simp only [listedB, Array.getD_eq_getD_getElem?, Array.getElem?_replicate]
    split <;> simp
  refine draw_sound hp hk ops.size _ (List.range ops.size) ⟨tmps, []⟩ _ σ1 (by simp) (fun i o _ hi => by rw [hbf] at hi; simp at hi) (by simp) (fun i hi _ => List.mem_range.2 hi) rfl ?_ ?_ (hS1.any.trans hS2.any)
  · rw [hH0]; exact hI2
  · rw [hL0]; exact hF2
end
end Go.Sx

/- Small laws for contracts. No statement of the seat is proved here. -/
namespace Go.Sx
theorem both_t {b : Bool} {A B : Prop} (hb : b = true) (h : A) : (b = true → A) ∧ (b = false → B) := ⟨fun _ => h, fun hf => by rw [hb] at hf; simp at hf⟩
theorem both_f {b : Bool} {A B : Prop} (hb : b = false) (h : B) : (b = true → A) ∧ (b = false → B) := ⟨fun hf => by rw [hb] at hf; simp at hf, fun _ => h⟩
theorem repl_nil {w : World} {E : Nat → Prop} {σ : Sg} : RepL w E σ [] [] := ⟨rfl, by simp⟩
theorem repl_cons {w : World} {E : Nat → Prop} {σ : Sg} {s : SV} {v : Value} {ss : List SV} {vs : List Value} (h : Rep w E σ s v) (hs : RepL w E σ ss vs) : RepL w E σ (s :: ss) (v :: vs) :=
  ⟨by simp [hs.1], fun i s' v' h1 h2 => by
    cases i with
    | zero => simp at h1 h2; subst h1; subst h2; exact h
    | succ i => exact hs.2 i s' v' (by simpa using h1) (by simpa using h2)⟩
end Go.Sx

/- Loops: a frame and a heap at their head, and what is forgotten there. No statement of the seat is proved here. -/
namespace Go.Sx
section
variable {P : Program} {T : Tab}

/-- Whatever the one pair says the other says too: blocks may change their number, may be given away; slots may be forgotten. -/
structure Shift (m : Nat) (F : Fr) (h : Hp) (F' : Fr) (h' : Hp) : Prop where
  ok : ∀ (w : World) (X : Nat → Prop) (σ : Sg) (tmps : Array Value), Inv w X σ h → FRep w (Ex X σ) σ F tmps → ∃ σ', Inv w X σ' h' ∧ FRep w (Ex X σ') σ' F' tmps ∧ Step m w σ w σ'
theorem Shift.refl (m : Nat) (F : Fr) (h : Hp) : Shift m F h F h := ⟨fun _ _ σ _ hI hF => ⟨σ, hI, hF, .refl _ _ _⟩⟩
theorem Shift.trans {m : Nat} {F F' F'' : Fr} {h h' h'' : Hp} (a : Shift m F h F' h') (b : Shift m F' h' F'' h'') : Shift m F h F'' h'' := ⟨fun w X σ tmps hI hF => by
  obtain ⟨σ', hI', hF', hS⟩ := a.ok w X σ tmps hI hF
  obtain ⟨σ'', hI'', hF'', hS'⟩ := b.ok w X σ' tmps hI' hF'
  exact ⟨σ'', hI'', hF'', hS.trans hS'⟩⟩

/-- What is shown on the way out of a loop. -/
structure XG (m : Nat) (F : Fr) (h : Hp) (K : Fr → Hp → Prop) : Prop where
  ok : ∃ F' h', Shift m F h F' h' ∧ K F' h'
theorem XG.same {m : Nat} {F : Fr} {h : Hp} {K : Fr → Hp → Prop} (hk : K F h) : XG m F h K := ⟨F, h, .refl _ _ _, hk⟩
theorem XG.step {m : Nat} {F F' : Fr} {h h' : Hp} {K : Fr → Hp → Prop} (hs : Shift m F h F' h') (hk : XG m F' h' K) : XG m F h K := by
  obtain ⟨F'', h'', hs', hk⟩ := hk.ok
  exact ⟨F'', h'', hs.trans hs', hk⟩

/-! ### frames that are told in a few words -/
def mkFr (n : Nat) (sp : List (Nat × SV)) : Fr := sp.foldl (fun F p => F.set p.1 p.2) (List.replicate n .any)
noncomputable def setsK (sp : List (Nat × SV)) : Fr → (Fr → Prop) → Prop :=
  List.rec (motive := fun _ => Fr → (Fr → Prop) → Prop) (fun F k => k F) (fun p _ ih F k => setK F p.1 p.2 fun F' => ih F' k) sp
noncomputable def frmK (n : Nat) (sp : List (Nat × SV)) (k : Fr → Prop) : Prop := repK n SV.any fun F => setsK sp F k
theorem setsK_sound {sp : List (Nat × SV)} : ∀ {F : Fr} {k : Fr → Prop}, setsK sp F k → k (sp.foldl (fun F p => F.set p.1 p.2) F) := by
  induction sp with
  | nil => intro F k h; exact h
  | cons p sp ih => intro F k h; exact ih (setK_sound (show setK F p.1 p.2 _ from h)).2
theorem repK_eq {α : Type} {x : α} : ∀ {n : Nat} {k : List α → Prop}, repK n x k → k (List.replicate n x) := by
  intro n
  induction n with
  | zero => intro k h; exact h
  | succ n ih => intro k h; exact ih (k := fun r => k (x :: r)) h
theorem frmK_sound {n : Nat} {sp : List (Nat × SV)} {k : Fr → Prop} (h : frmK n sp k) : k (mkFr n sp) := setsK_sound (repK_eq h)

structure HeadG (m : Nat) (F : Fr) (h : Hp) (n : Nat) (sp : List (Nat × SV)) (h' : Hp) : Prop where
  ok : Shift m F h (mkFr n sp) h'

/-- What holds behind one round. -/
def LPost {α : Type} (m n : Nat) (sp : α → List (Nat × SV)) (hx : α → Hp) (μ : α → Nat) (x : α) (K : Post) : Post := fun e F h => match e with
  | .normal => ∃ x', μ x' < μ x ∧ HeadG m F h n (sp x') (hx x')
  | .exit i => XG m F h (K (.exit i))
  | .ret => XG m F h (K .ret)

theorem SOK.loop {α : Type} {m n : Nat} {c : Code} {F : Fr} {h : Hp} {K : Post} (sp : α → List (Nat × SV)) (hx : α → Hp) (μ : α → Nat) (x0 : α) (hs : Shift m F h (mkFr n (sp x0)) (hx x0))
    (body : ∀ x, SOK P m c (mkFr n (sp x)) (hx x) (LPost m n sp hx μ x K)) : SOK P m (.loop c) F h K := by
  intro w X σ tmps hI hF
  obtain ⟨σ0, hI0, hF0, hS0⟩ := hs.ok w X σ tmps hI hF
  refine wp_loop_ghost (fun k a w' => ∃ x σ', μ x = k ∧ a.defers = [] ∧ Inv w' X σ' (hx x) ∧ FRep w' (Ex X σ') σ' (mkFr n (sp x)) a.tmps ∧ Step m w σ w' σ') (μ x0) ⟨x0, σ0, rfl, rfl, hI0, hF0, hS0⟩ ?_
  rintro k ⟨tmps', ds⟩ w' ⟨x, σ', hk, hd, hI', hF', hS'⟩
  have hd : ds = [] := hd
  subst hd
  refine wp_mono (body x w' X σ' tmps' hI' hF') fun e a' w'' hq => ?_
  obtain ⟨hd', y, F2, h2, σ2, hx2, hp, hI2, hF2, hS2⟩ := hq
  cases e <;> cases hx2
  case normal =>
    obtain ⟨x', hlt, hhead⟩ := hp
    obtain ⟨σ3, hI3, hF3, hS3⟩ := hhead.ok.ok w'' X σ2 a'.tmps hI2 hF2
    exact ⟨μ x', by omega, x', σ3, rfl, hd', hI3, hF3, (hS'.trans hS2).trans hS3⟩
  case exit i =>
    obtain ⟨F3, h3, hsh, hp⟩ := XG.ok hp
    obtain ⟨σ3, hI3, hF3, hS3⟩ := hsh.ok w'' X σ2 a'.tmps hI2 hF2
    exact ⟨hd', .exit i, F3, h3, σ3, rfl, hp, hI3, hF3, (hS'.trans hS2).trans hS3⟩
  case ret =>
    obtain ⟨F3, h3, hsh, hp⟩ := XG.ok hp
    obtain ⟨σ3, hI3, hF3, hS3⟩ := hsh.ok w'' X σ2 a'.tmps hI2 hF2
    exact ⟨hd', .ret, F3, h3, σ3, rfl, hp, hI3, hF3, (hS'.trans hS2).trans hS3⟩

/-- A LOOP, by what holds at its head. -/
theorem LoopG.inv (hT : TabOK P T) {α : Type} {m : Nat} {c : Code} {F : Fr} {h : Hp} {K : Post} (n : Nat) (sp : α → List (Nat × SV)) (hx : α → Hp) (μ : α → Nat) (x0 : α)
    (hs : HeadG m F h n (sp x0) (hx x0)) (body : ∀ x, frmK n (sp x) fun F => codeK P T m c F (hx x) (LPost m n sp hx μ x K)) : LoopG P m c F h K :=
  ⟨SOK.loop sp hx μ x0 hs.ok fun x => codeK_sound hT c (frmK_sound (body x))⟩

/-! ### the shift, reckoned -/
abbrev Rho := List (Option Nat)
def refK (ρ : Rho) (b' b : Nat) (k : Prop) : Prop := nthK ρ b' fun r => match r with | some j => eqNK j b k | none => False
def nilK (ρ : Rho) (b' : Nat) (k : Prop) : Prop := nthK ρ b' fun r => match r with | some _ => False | none => k
def slot0K (ρ : Rho) (s s' : SV) (k : Prop) : Prop :=
  match s' with
  | .any => k
  | .undef => match s with | .undef => k | _ => False
  | .int q n' => match s with | .int p n => if p = q then n = n' ∧ k else False | _ => False
  | .bool b' => match s with | .bool b => b = b' ∧ k | .tt => true = b' ∧ k | .ff => false = b' ∧ k | _ => False
  | .tt => match s with | .tt => k | .bool b => b = true ∧ k | _ => False
  | .ff => match s with | .ff => k | .bool b => b = false ∧ k | _ => False
  | .str t => s = .str t ∧ k
  | .nilp => match s with | .nilp => k | _ => False
  | .nils => match s with | .nils => k | _ => False
  | .ptr b' o' => match s with | .ptr b o => refK ρ b' b (eqNK o o' k) | _ => False
  | .sl b' => match s with | .sl b => refK ρ b' b k | .nils => nilK ρ b' k | _ => False
  | .rs z' es' => match s with | .rs z es => eqNK z z' (es = es' ∧ k) | .nils => es' = [] ∧ k | _ => False
  | .agg cs' => s = .agg cs' ∧ puresK cs' k
  | .fn f cs => s = .fn f cs ∧ puresK cs k
  | .mp b' => match s with | .mp b => refK ρ b' b k | _ => False
  | .nilm => match s with | .nilm => k | _ => False
  | .nili => match s with | .nili => k | _ => False
  | .z0 => match s with | .z0 => k | .nils => k | _ => False
  | .it b' => match s with | .it b => refK ρ b' b k | _ => False
  | .ss b' l' n' => match s with | .ss b l n => refK ρ b' b (l = l' ∧ n = n' ∧ k) | _ => False
  | _ => False
noncomputable def slots0K (ρ : Rho) (l : List SV) : List SV → Prop → Prop :=
  List.rec (motive := fun _ => List SV → Prop → Prop) (fun l' k => List.rec (motive := fun _ => Prop) k (fun _ _ _ => False) l')
    (fun s _ ih l' k => List.rec (motive := fun _ => Prop) False (fun s' t' _ => slot0K ρ s s' (ih t' k)) l') l
noncomputable def slotK (ρ : Rho) (s s' : SV) (k : Prop) : Prop :=
  match s' with
  | .ifc T' y => (match s with
    | .ifc T x => eqNK T T' (match y with | .agg cs' => (match x with | .agg cs => slots0K ρ cs cs' k | _ => False) | y => slot0K ρ x y k)
    | _ => False)
  | s' => slot0K ρ s s' k
noncomputable def slotsK (ρ : Rho) (l : List SV) : List SV → Prop → Prop :=
  List.rec (motive := fun _ => List SV → Prop → Prop) (fun l' k => List.rec (motive := fun _ => Prop) k (fun _ _ _ => False) l')
    (fun s _ ih l' k => List.rec (motive := fun _ => Prop) False (fun s' t' _ => slotK ρ s s' (ih t' k)) l') l
noncomputable def slotRowsK (ρ : Rho) (l : List (List SV)) : List (List SV) → Prop → Prop :=
  List.rec (motive := fun _ => List (List SV) → Prop → Prop) (fun l' k => List.rec (motive := fun _ => Prop) k (fun _ _ _ => False) l')
    (fun s _ ih l' k => List.rec (motive := fun _ => Prop) False (fun s' t' _ => slotsK ρ s s' (ih t' k)) l') l
noncomputable def slotEntsK (ρ : Rho) (l : List (SV × SV × Nat)) : List (SV × SV × Nat) → Prop → Prop :=
  List.rec (motive := fun _ => List (SV × SV × Nat) → Prop → Prop) (fun l' k => List.rec (motive := fun _ => Prop) k (fun _ _ _ => False) l')
    (fun s _ ih l' k => List.rec (motive := fun _ => Prop) False (fun s' t' _ => slotK ρ s.1 s'.1 (slotK ρ s.2.1 s'.2.1 (s.2.2 = s'.2.2 ∧ ih t' k))) l') l
noncomputable def blksK (ρ : Rho) (h : Hp) (r : Rho) : Hp → Prop → Prop :=
  List.rec (motive := fun _ => Hp → Prop → Prop) (fun h' k => List.rec (motive := fun _ => Prop) k (fun _ _ _ => False) h')
    (fun x _ ih h' k => List.rec (motive := fun _ => Prop) False (fun b' t' _ => match b', x with
      | .dead, _ => ih t' k
      | .row _ _ es', none => es' = [] ∧ ih t' k
      | .row t z es', some j => nthK h j fun b => match b with
        | .row t0 z0 es => eqNK t0 t (eqNK z0 z (es = es' ∧ ih t' k))
        | _ => False
      | .fix t cs', some j => nthK h j fun b => match b with
        | .fix t0 cs => eqNK t0 t (slotsK ρ cs cs' (ih t' k))
        | _ => False
      | .prow _ _ es', none => es' = [] ∧ ih t' k
      | .prow t z es', some j => nthK h j fun b => match b with
        | .prow t0 z0 es => eqNK t0 t (eqNK z0 z (slotRowsK ρ es es' (ih t' k)))
        | _ => False
      | .mapB es' c', some j => nthK h j fun b => match b with
        | .mapB es c => es = es' ∧ c = c' ∧ ih t' k
        | _ => False
      | .pmap es' c', some j => nthK h j fun b => match b with
        | .pmap es c => slotEntsK ρ es es' (c = c' ∧ ih t' k)
        | _ => False
      | _, _ => False) h') r
def rhoB (m : Nat) (ρ : Rho) : Bool :=
  (List.range m).all (fun i => ρ[i]? == some (some i)) && (List.range ρ.length).all fun i => (List.range ρ.length).all fun j => i == j || ρ[i]? == some none || !(ρ[i]? == ρ[j]?)

noncomputable def shiftK (ρ : Rho) (F : Fr) (h : Hp) (F' : Fr) (h' : Hp) : Prop := slotsK ρ F F' (blksK ρ h ρ h' True)

def entOf (σ : Sg) : Option Nat → Blk → Ent
  | _, .dead => .dead
  | some j, _ => σ.getD j .dead
  | none, _ => .rownil
def sgOf (σ : Sg) (ρ : Rho) (h' : Hp) : Sg := List.zipWith (entOf σ) ρ h'

theorem refK_sound {ρ : Rho} {b' b : Nat} {k : Prop} (h : refK ρ b' b k) : ρ[b']? = some (some b) ∧ k := by
  obtain ⟨r, hr, h⟩ := nthK_sound (show nthK ρ b' _ from h)
  cases r with
  | none => exact h.elim
  | some j =>
    obtain ⟨e, h2⟩ := eqNK_sound (show eqNK j b k from h)
    subst e
    exact ⟨hr, h2⟩
theorem nilK_sound {ρ : Rho} {b' : Nat} {k : Prop} (h : nilK ρ b' k) : ρ[b']? = some none ∧ k := by
  obtain ⟨r, hr, h⟩ := nthK_sound (show nthK ρ b' _ from h)
  cases r with
  | none => exact ⟨hr, h⟩
  | some j => exact h.elim

/-- What ties the two lists of entries. -/
structure Ties (σ σ' : Sg) (ρ : Rho) : Prop where
  ref : ∀ (b j : Nat) (e : Ent), ρ[b]? = some (some j) → σ[j]? = some e → e ≠ .fresh → σ'[b]? = some e ∨ σ'[b]? = some Ent.dead
  nil : ∀ (b : Nat), ρ[b]? = some none → σ'[b]? = some Ent.rownil ∨ σ'[b]? = some Ent.dead

theorem slot0K_sound {ρ : Rho} {s s' : SV} {k : Prop} (h : slot0K ρ s s' k) : k ∧ ∀ (w : World) (E E' : Nat → Prop) (σ σ' : Sg) (v : Value), Ties σ σ' ρ → (∀ g, E' g → E g) → Rep w E σ s v → Rep w E' σ' s' v := by
  have same : FreeSV s → ∀ (w : World) (E E' : Nat → Prop) (σ σ' : Sg) (v : Value), Ties σ σ' ρ → (∀ g, E' g → E g) → Rep w E σ s v → Rep w E' σ' s v := fun hf w E E' σ σ' v _ hE hr =>
    (hf w E σ [] v hr).mono σ' (fun _ _ _ => rfl) (Nat.le_refl _) (fun g _ hn h => hn (hE g h)) (by simp)
  unfold slot0K at h
  split at h
  case h_1 => exact ⟨h, fun _ _ _ _ _ _ _ _ _ => .any⟩
  case h_2 => split at h <;> first | exact h.elim | exact ⟨h, fun _ _ _ _ _ _ _ _ hr => by cases hr; exact .undef⟩
  case h_3 =>
    split at h
    · split at h
      · rename_i hp; subst hp; obtain ⟨e, h⟩ := h; subst e; exact ⟨h, fun _ _ _ _ _ _ _ _ hr => by cases hr; exact .int⟩
      · exact h.elim
    · exact h.elim
  case h_4 => split at h <;> first | exact h.elim | (obtain ⟨e, h⟩ := h; subst e; exact ⟨h, fun _ _ _ _ _ _ _ _ hr => by cases hr; exact .bool⟩)
  case h_5 =>
    split at h
    · exact ⟨h, fun _ _ _ _ _ _ _ _ hr => by cases hr; exact .tt⟩
    · obtain ⟨e, h⟩ := h; subst e; exact ⟨h, fun _ _ _ _ _ _ _ _ hr => by cases hr; exact .tt⟩
    · exact h.elim
  case h_6 =>
    split at h
    · exact ⟨h, fun _ _ _ _ _ _ _ _ hr => by cases hr; exact .ff⟩
    · obtain ⟨e, h⟩ := h; subst e; exact ⟨h, fun _ _ _ _ _ _ _ _ hr => by cases hr; exact .ff⟩
    · exact h.elim
  case h_7 => obtain ⟨e, h⟩ := h; subst e; exact ⟨h, fun _ _ _ _ _ _ _ _ hr => by cases hr; exact .str⟩
  case h_8 => split at h <;> first | exact h.elim | exact ⟨h, fun _ _ _ _ _ _ _ _ hr => by cases hr; exact .nilp⟩
  case h_9 => split at h <;> first | exact h.elim | exact ⟨h, fun _ _ _ _ _ _ _ _ hr => by cases hr; exact .nils⟩
  case h_10 =>
    split at h
    · obtain ⟨hb, h⟩ := refK_sound h
      obtain ⟨e, h2⟩ := eqNK_sound h
      subst e
      refine ⟨h2, fun w E E' σ σ' v ht _ hr => ?_⟩
      cases hr with
      | ptr hg => exact (ht.ref _ _ _ hb hg (by simp)).elim (fun h => .ptr h) (fun h => .ptrD h)
      | ptrD hg => exact (ht.ref _ _ _ hb hg (by simp)).elim (fun h => .ptrD h) (fun h => .ptrD h)
    · exact h.elim
  case h_11 =>
    split at h
    · obtain ⟨hb, h⟩ := refK_sound h
      refine ⟨h, fun w E E' σ σ' v ht _ hr => ?_⟩
      cases hr with
      | sl hg => exact (ht.ref _ _ _ hb hg (by simp)).elim (fun h => .sl h) (fun h => .slD h)
      | slN hg => exact (ht.ref _ _ _ hb hg (by simp)).elim (fun h => .slN h) (fun h => .slD h)
      | slD hg => exact (ht.ref _ _ _ hb hg (by simp)).elim (fun h => .slD h) (fun h => .slD h)
    · obtain ⟨hb, h⟩ := nilK_sound h
      refine ⟨h, fun w E E' σ σ' v ht _ hr => ?_⟩
      cases hr
      exact (ht.nil _ hb).elim (fun h => .slN h) (fun h => .slD h)
    · exact h.elim
  case h_12 =>
    split at h
    · obtain ⟨e, e', h2⟩ := eqNK_sound h
      subst e; subst e'
      refine ⟨h2, same fun w E σ σ' v hr => ?_⟩
      cases hr <;> constructor <;> assumption
    · obtain ⟨e, h⟩ := h
      subst e
      exact ⟨h, fun _ _ _ _ _ _ _ _ hr => by cases hr; exact .rs0 (Nat.zero_le _)⟩
    · exact h.elim
  case h_13 =>
    obtain ⟨e, h⟩ := h
    subst e
    obtain ⟨h, hf⟩ := agg_free h
    exact ⟨h, same hf⟩
  case h_14 =>
    obtain ⟨e, h⟩ := h
    subst e
    obtain ⟨h, hf⟩ := puresK_sound h
    refine ⟨h, same fun w E σ σ' v hr => ?_⟩
    cases hr with
    | fn hl hc => exact .fn hl fun i s v hs hv => hf s (List.mem_of_getElem? hs) w E σ σ' v (hc i s v hs hv)
  case h_15 =>
    split at h
    · obtain ⟨hb, h⟩ := refK_sound h
      refine ⟨h, fun w E E' σ σ' v ht _ hr => ?_⟩
      cases hr with
      | mp hg => exact (ht.ref _ _ _ hb hg (by simp)).elim (fun h => .mp h) (fun h => .mpD h)
      | mpD hg => exact (ht.ref _ _ _ hb hg (by simp)).elim (fun h => .mpD h) (fun h => .mpD h)
    · exact h.elim
  case h_16 => split at h <;> first | exact h.elim | exact ⟨h, fun _ _ _ _ _ _ _ _ hr => by cases hr; exact .nilm⟩
  case h_17 => split at h <;> first | exact h.elim | exact ⟨h, fun _ _ _ _ _ _ _ _ hr => by cases hr; exact .nili⟩
  case h_18 => split at h <;> first | exact h.elim | exact ⟨h, fun _ _ _ _ _ _ _ _ hr => by cases hr; exact .z0⟩
  case h_19 =>
    split at h
    · obtain ⟨hb, h⟩ := refK_sound h
      refine ⟨h, fun w E E' σ σ' v ht _ hr => ?_⟩
      cases hr with
      | it hg => exact (ht.ref _ _ _ hb hg (by simp)).elim (fun h => .it h) (fun h => .itD h)
      | itD hg => exact (ht.ref _ _ _ hb hg (by simp)).elim (fun h => .itD h) (fun h => .itD h)
    · exact h.elim
  case h_20 =>
    split at h
    · obtain ⟨hb, e1, e2, h2⟩ := refK_sound h
      subst e1; subst e2
      refine ⟨h2, fun w E E' σ σ' v ht _ hr => ?_⟩
      cases hr with
      | ss hg hl ho => exact (ht.ref _ _ _ hb hg (by simp)).elim (fun h => .ss h hl ho) (fun h => .ssD h)
      | ssN hg => exact (ht.ref _ _ _ hb hg (by simp)).elim (fun h => .ssN h) (fun h => .ssD h)
      | ssD hg => exact (ht.ref _ _ _ hb hg (by simp)).elim (fun h => .ssD h) (fun h => .ssD h)
    · exact h.elim
  case h_21 => exact h.elim

def SlotOK (ρ : Rho) (s s' : SV) : Prop := ∀ (w : World) (E E' : Nat → Prop) (σ σ' : Sg) (v : Value), Ties σ σ' ρ → (∀ g, E' g → E g) → Rep w E σ s v → Rep w E' σ' s' v
theorem slotl_sound {ρ : Rho} {f : SV → SV → Prop → Prop} (hf : ∀ {s s' : SV} {k : Prop}, f s s' k → k ∧ SlotOK ρ s s') (l : List SV) : ∀ {l' : List SV} {k : Prop},
    List.rec (motive := fun _ => List SV → Prop → Prop) (fun l' k => List.rec (motive := fun _ => Prop) k (fun _ _ _ => False) l')
      (fun s _ ih l' k => List.rec (motive := fun _ => Prop) False (fun s' t' _ => f s s' (ih t' k)) l') l l' k → k ∧ l.length = l'.length ∧ ∀ (i : Nat) (s s' : SV), l[i]? = some s → l'[i]? = some s' → SlotOK ρ s s' := by
  induction l with
  | nil =>
    intro l' k h
    cases l' with
    | nil => exact ⟨h, rfl, by simp⟩
    | cons x t => exact h.elim
  | cons s l ih =>
    intro l' k h
    cases l' with
    | nil => exact h.elim
    | cons s' l' =>
      obtain ⟨h, h1⟩ := hf h
      obtain ⟨h, hl, h2⟩ := ih h
      refine ⟨h, by simp [hl], fun i a a' ha ha' => ?_⟩
      cases i with
      | zero => simp at ha ha'; subst ha; subst ha'; exact h1
      | succ i => exact h2 i a a' (by simpa using ha) (by simpa using ha')
theorem slotK_sound {ρ : Rho} {s s' : SV} {k : Prop} (h : slotK ρ s s' k) : k ∧ ∀ (w : World) (E E' : Nat → Prop) (σ σ' : Sg) (v : Value), Ties σ σ' ρ → (∀ g, E' g → E g) → Rep w E σ s v → Rep w E' σ' s' v := by
  cases s' with
  | ifc T' y =>
    cases s with
    | ifc T x =>
      obtain ⟨e, hz⟩ := eqNK_sound (show eqNK T T' _ from h)
      subst e
      clear h
      have key : (∃ cs cs', x = .agg cs ∧ y = .agg cs' ∧ slots0K ρ cs cs' k) ∨ slot0K ρ x y k := by
        cases y <;> first | exact .inr hz | skip
        cases x <;> first | exact .inl ⟨_, _, rfl, rfl, hz⟩ | exact hz.elim
      rcases key with ⟨cs, cs', rfl, rfl, h⟩ | h
      · obtain ⟨h, hl, hc⟩ := slotl_sound slot0K_sound cs h
        refine ⟨h, fun w E E' σ σ' v ht hE hr => ?_⟩
        cases hr with
        | ifc hr =>
          cases hr with
          | agg hlen ho hcs =>
            refine .ifc (.agg (hl ▸ hlen) ho fun i s v hs hv => ?_)
            have hi : i < cs.length := by rw [hl]; exact (List.getElem?_eq_some_iff.1 hs).1
            exact hc i _ s (List.getElem?_eq_getElem hi) hs w E E' σ σ' v ht hE (hcs i _ v (List.getElem?_eq_getElem hi) hv)
      · obtain ⟨h, hi⟩ := slot0K_sound h
        refine ⟨h, fun w E E' σ σ' v ht hE hr => ?_⟩
        cases hr with
        | ifc hr => exact .ifc (hi w E E' σ σ' _ ht hE hr)
    | _ => exact h.elim
  | _ => exact slot0K_sound h
theorem slotRowsK_sound {ρ : Rho} (l : List (List SV)) : ∀ {l' : List (List SV)} {k : Prop}, slotRowsK ρ l l' k → k ∧ l.length = l'.length ∧
    ∀ (i : Nat) (e e' : List SV), l[i]? = some e → l'[i]? = some e' → e.length = e'.length ∧ ∀ (j : Nat) (s s' : SV), e[j]? = some s → e'[j]? = some s' → SlotOK ρ s s' := by
  induction l with
  | nil =>
    intro l' k h
    cases l' with
    | nil => exact ⟨h, rfl, by simp⟩
    | cons x t => exact h.elim
  | cons s l ih =>
    intro l' k h
    cases l' with
    | nil => exact h.elim
    | cons s' l' =>
      obtain ⟨h, h1⟩ := slotl_sound slotK_sound s (show slotsK ρ s s' (slotRowsK ρ l l' k) from h)
      obtain ⟨h, hl, h2⟩ := ih h
      refine ⟨h, by simp [hl], fun i a a' ha ha' => ?_⟩
      cases i with
      | zero => simp at ha ha'; subst ha; subst ha'; exact h1
      | succ i => exact h2 i a a' (by simpa using ha) (by simpa using ha')
theorem slotEntsK_sound {ρ : Rho} (l : List (SV × SV × Nat)) : ∀ {l' : List (SV × SV × Nat)} {k : Prop}, slotEntsK ρ l l' k → k ∧ l.length = l'.length ∧
    ∀ (i : Nat) (e e' : SV × SV × Nat), l[i]? = some e → l'[i]? = some e' → SlotOK ρ e.1 e'.1 ∧ SlotOK ρ e.2.1 e'.2.1 ∧ e.2.2 = e'.2.2 := by
  induction l with
  | nil =>
    intro l' k h
    cases l' with
    | nil => exact ⟨h, rfl, by simp⟩
    | cons x t => exact h.elim
  | cons s l ih =>
    intro l' k h
    cases l' with
    | nil => exact h.elim
    | cons s' l' =>
      obtain ⟨h, h1⟩ := slotK_sound (show slotK ρ s.1 s'.1 (slotK ρ s.2.1 s'.2.1 (s.2.2 = s'.2.2 ∧ slotEntsK ρ l l' k)) from h)
      obtain ⟨⟨h0, h⟩, h2⟩ := slotK_sound h
      obtain ⟨h, hl, h3⟩ := ih h
      refine ⟨h, by simp [hl], fun i a a' ha ha' => ?_⟩
      cases i with
      | zero => simp at ha ha'; subst ha; subst ha'; exact ⟨h1, h2, h0⟩
      | succ i => exact h3 i a a' (by simpa using ha) (by simpa using ha')

theorem slotsK_sound {ρ : Rho} (l : List SV) : ∀ {l' : List SV} {k : Prop}, slotsK ρ l l' k → k ∧ l.length = l'.length ∧
    ∀ (w : World) (E E' : Nat → Prop) (σ σ' : Sg), Ties σ σ' ρ → (∀ g, E' g → E g) → ∀ (i : Nat) (s s' : SV) (v : Value), l[i]? = some s → l'[i]? = some s' → Rep w E σ s v → Rep w E' σ' s' v := by
  induction l with
  | nil =>
    intro l' k h
    cases l' with
    | nil => exact ⟨h, rfl, by simp⟩
    | cons x t => exact h.elim
  | cons s l ih =>
    intro l' k h
    cases l' with
    | nil => exact h.elim
    | cons s' l' =>
      obtain ⟨h, h1⟩ := slotK_sound (show slotK ρ s s' (slotsK ρ l l' k) from h)
      obtain ⟨h, hl, h2⟩ := ih h
      refine ⟨h, by simp [hl], fun w E E' σ σ' ht hE i a a' v ha ha' hr => ?_⟩
      cases i with
      | zero => simp at ha ha'; subst ha; subst ha'; exact h1 w E E' σ σ' v ht hE hr
      | succ i => exact h2 w E E' σ σ' ht hE i a a' v (by simpa using ha) (by simpa using ha') hr
end
end Go.Sx

/- The shift is sound; a row that nobody writes any more. No statement of the seat is proved here. -/
namespace Go.Sx
section
variable {P : Program} {T : Tab}

theorem Rep.le {w : World} {E E' : Nat → Prop} {s : SV} {v : Value} (h : Rep w E [] s v) (hE : ∀ g, E' g → E g) (σ' : Sg) : Rep w E' σ' s v :=
  h.mono σ' (fun _ _ _ => rfl) (Nat.le_refl _) (fun g _ hn h => hn (hE g h)) (by simp)

/-- What is said of one target block. -/
def BlkTie (ρ : Rho) (h : Hp) (r : Option Nat) (b' : Blk) : Prop :=
  ∀ (w : World) (E E' : Nat → Prop) (σ σ' : Sg), σ.length = h.length → Ties σ σ' ρ → (∀ g, E' g → E g) → (∀ (i : Nat) (b : Blk) (e : Ent), h[i]? = some b → σ[i]? = some e → BlkOK w E σ b e) → BlkOK w E' σ' b' (entOf σ r b')
/-- An entry that is taken over is none of a block yet to come. -/
def BlkSrc (h : Hp) (r : Option Nat) (b' : Blk) : Prop := (∃ (j : Nat) (b : Blk), r = some j ∧ h[j]? = some b ∧ b ≠ .fresh) ∨ b' = .dead ∨ (r = none ∧ b' ≠ .fresh)

theorem blksK_sound {ρ : Rho} {h : Hp} (r : Rho) : ∀ {h' : Hp} {k : Prop}, blksK ρ h r h' k → k ∧ r.length = h'.length ∧
    ∀ (i : Nat) (x : Option Nat) (b' : Blk), r[i]? = some x → h'[i]? = some b' → BlkTie ρ h x b' ∧ BlkSrc h x b' := by
  induction r with
  | nil =>
    intro h' k hk
    cases h' with
    | nil => exact ⟨hk, rfl, by simp⟩
    | cons b t => exact hk.elim
  | cons x r ih =>
    intro h' k hk
    cases h' with
    | nil => exact hk.elim
    | cons b' t =>
      have key : blksK ρ h r t k ∧ BlkTie ρ h x b' ∧ BlkSrc h x b' := by
        cases b' with
        | dead => exact ⟨hk, fun _ _ _ _ _ _ _ _ _ => by cases x <;> trivial, .inr (.inl rfl)⟩
        | fresh => exact False.elim (by cases x <;> exact hk)
        | row t0 z es' =>
          cases x with
          | none =>
            obtain ⟨e, hk⟩ := (show es' = [] ∧ blksK ρ h r t k from hk)
            exact ⟨hk, fun _ _ _ _ _ _ _ _ _ => e, .inr (.inr ⟨rfl, by simp⟩)⟩
          | some j =>
            obtain ⟨b, hb, hk⟩ := nthK_sound (show nthK h j _ from hk)
            cases b with
            | row t1 z1 es =>
              obtain ⟨e1, hk⟩ := eqNK_sound hk
              obtain ⟨e2, e3, hk2⟩ := eqNK_sound hk
              subst e1; subst e2; subst e3
              refine ⟨hk2, fun w E E' σ σ' hl ht hE hall => ?_, .inl ⟨j, _, rfl, hb, by simp⟩⟩
              have hlt : j < σ.length := by rw [hl]; exact (List.getElem?_eq_some_iff.1 hb).1
              have he : σ[j]? = some (σ.getD j .dead) := by simp [List.getD, List.getElem?_eq_getElem hlt]
              have := hall j _ _ hb he
              show BlkOK w E' σ' _ (σ.getD j .dead)
              revert this
              generalize σ.getD j .dead = e
              intro this
              cases e <;> simp only [BlkOK] at this ⊢
              case row g sz n cap =>
                obtain ⟨h1, h2, h3, h4, vs, h5, h6, h7⟩ := this
                refine ⟨h1, h2, h3, h4, vs, h5, h6, fun i e he => ⟨(h7 i e he).1, fun j s hs => ?_⟩⟩
                obtain ⟨v, a, b, c⟩ := (h7 i e he).2 j s hs
                exact ⟨v, a, b.le hE [], c⟩
              case rownil => exact this
            | _ => exact hk.elim
        | fix t0 cs' =>
          cases x with
          | none => exact hk.elim
          | some j =>
            obtain ⟨b, hb, hk⟩ := nthK_sound (show nthK h j _ from hk)
            cases b with
            | fix t1 cs =>
              obtain ⟨e1, hk⟩ := eqNK_sound hk
              obtain ⟨hk2, hlen, hs⟩ := slotsK_sound cs hk
              subst e1
              refine ⟨hk2, fun w E E' σ σ' hl ht hE hall => ?_, .inl ⟨j, _, rfl, hb, by simp⟩⟩
              have hlt : j < σ.length := by rw [hl]; exact (List.getElem?_eq_some_iff.1 hb).1
              have he : σ[j]? = some (σ.getD j .dead) := by simp [List.getD, List.getElem?_eq_getElem hlt]
              have := hall j _ _ hb he
              show BlkOK w E' σ' _ (σ.getD j .dead)
              revert this
              generalize σ.getD j .dead = e
              intro this
              cases e <;> simp only [BlkOK] at this ⊢
              case fix g =>
                obtain ⟨vs, h1, h2, h3⟩ := this
                refine ⟨vs, h1, by rw [← hlen]; exact h2, fun i s v hs' hv => ?_⟩
                have hi : i < cs.length := by rw [hlen]; exact (List.getElem?_eq_some_iff.1 hs').1
                obtain ⟨a, b⟩ := h3 i _ v (List.getElem?_eq_getElem hi) hv
                exact ⟨hs w E E' σ σ' ht hE i _ s v (List.getElem?_eq_getElem hi) hs' a, b⟩
            | _ => exact hk.elim
        | prow t0 z es' =>
          cases x with
          | none =>
            obtain ⟨e, hk⟩ := (show es' = [] ∧ blksK ρ h r t k from hk)
            exact ⟨hk, fun _ _ _ _ _ _ _ _ _ => e, .inr (.inr ⟨rfl, by simp⟩)⟩
          | some j =>
            obtain ⟨b, hb, hk⟩ := nthK_sound (show nthK h j _ from hk)
            cases b with
            | prow t1 z1 es =>
              obtain ⟨e1, hk⟩ := eqNK_sound hk
              obtain ⟨e2, hk⟩ := eqNK_sound hk
              obtain ⟨hk2, hlen, hs⟩ := slotRowsK_sound es hk
              subst e1; subst e2
              refine ⟨hk2, fun w E E' σ σ' hl ht hE hall => ?_, .inl ⟨j, _, rfl, hb, by simp⟩⟩
              have hlt : j < σ.length := by rw [hl]; exact (List.getElem?_eq_some_iff.1 hb).1
              have he : σ[j]? = some (σ.getD j .dead) := by simp [List.getD, List.getElem?_eq_getElem hlt]
              have := hall j _ _ hb he
              show BlkOK w E' σ' _ (σ.getD j .dead)
              revert this
              generalize σ.getD j .dead = e
              intro this
              cases e <;> simp only [BlkOK] at this ⊢
              case row g sz n cap =>
                obtain ⟨h1, h2, h3, h4, vs, h5, h6, h7⟩ := this
                refine ⟨h1, h2.trans hlen, h3, h4, vs, h5, h6, fun i e he => ?_⟩
                have hi : i < es.length := by rw [hlen]; exact (List.getElem?_eq_some_iff.1 he).1
                obtain ⟨q1, q2⟩ := hs i _ e (List.getElem?_eq_getElem hi) he
                obtain ⟨q3, q4⟩ := h7 i _ (List.getElem?_eq_getElem hi)
                refine ⟨q1 ▸ q3, fun l s hs' => ?_⟩
                have hj : l < es[i].length := by rw [q1]; exact (List.getElem?_eq_some_iff.1 hs').1
                obtain ⟨v, a, b, c⟩ := q4 l _ (List.getElem?_eq_getElem hj)
                exact ⟨v, a, q2 l _ s (List.getElem?_eq_getElem hj) hs' w E E' σ σ' v ht hE b, c⟩
              case rownil => subst this; exact List.length_eq_zero_iff.1 hlen.symm
            | _ => exact hk.elim
        | mapB es' c' =>
          cases x with
          | none => exact hk.elim
          | some j =>
            obtain ⟨b, hb, hk⟩ := nthK_sound (show nthK h j _ from hk)
            cases b with
            | mapB es c =>
              obtain ⟨e1, e2, hk2⟩ := hk
              subst e1; subst e2
              refine ⟨hk2, fun w E E' σ σ' hl ht hE hall => ?_, .inl ⟨j, _, rfl, hb, by simp⟩⟩
              have hlt : j < σ.length := by rw [hl]; exact (List.getElem?_eq_some_iff.1 hb).1
              have he : σ[j]? = some (σ.getD j .dead) := by simp [List.getD, List.getElem?_eq_getElem hlt]
              have := hall j _ _ hb he
              show BlkOK w E' σ' _ (σ.getD j .dead)
              revert this
              generalize σ.getD j .dead = e
              intro this
              cases e <;> simp only [BlkOK] at this ⊢
              obtain ⟨ms, h1, h2, h3⟩ := this
              exact ⟨ms, h1, h2, fun i e m he hm => ⟨(h3 i e m he hm).1.le hE [], (h3 i e m he hm).2.1.le hE [], (h3 i e m he hm).2.2⟩⟩
            | _ => exact hk.elim
        | pmap es' c' =>
          cases x with
          | none => exact hk.elim
          | some j =>
            obtain ⟨b, hb, hk⟩ := nthK_sound (show nthK h j _ from hk)
            cases b with
            | pmap es c =>
              obtain ⟨⟨e2, hk2⟩, hlen, hs⟩ := slotEntsK_sound es hk
              subst e2
              refine ⟨hk2, fun w E E' σ σ' hl ht hE hall => ?_, .inl ⟨j, _, rfl, hb, by simp⟩⟩
              have hlt : j < σ.length := by rw [hl]; exact (List.getElem?_eq_some_iff.1 hb).1
              have he : σ[j]? = some (σ.getD j .dead) := by simp [List.getD, List.getElem?_eq_getElem hlt]
              have := hall j _ _ hb he
              show BlkOK w E' σ' _ (σ.getD j .dead)
              revert this
              generalize σ.getD j .dead = e
              intro this
              cases e <;> simp only [BlkOK] at this ⊢
              obtain ⟨ms, h1, h2, h3⟩ := this
              refine ⟨ms, h1, hlen ▸ h2, fun i e m he hm => ?_⟩
              have hi : i < es.length := by rw [hlen]; exact (List.getElem?_eq_some_iff.1 he).1
              obtain ⟨q1, q2, q3⟩ := hs i _ e (List.getElem?_eq_getElem hi) he
              obtain ⟨q4, q5, q6⟩ := h3 i _ m (List.getElem?_eq_getElem hi) hm
              exact ⟨q1 w E E' σ σ' _ ht hE q4, q2 w E E' σ σ' _ ht hE q5, q6.trans q3⟩
            | _ => exact hk.elim
        | _ => exact False.elim (by cases x <;> exact hk)
      obtain ⟨hk, ht⟩ := key
      obtain ⟨hk, hl, hr⟩ := ih hk
      refine ⟨hk, by simp [hl], fun i y b hy hb => ?_⟩
      cases i with
      | zero => simp at hy hb; subst hy; subst hb; exact ht
      | succ i => exact hr i y b (by simpa using hy) (by simpa using hb)

theorem rhoB_spec {m : Nat} {ρ : Rho} (h : rhoB m ρ = true) : (∀ i, i < m → ρ[i]? = some (some i)) ∧ ∀ (i j k : Nat), ρ[i]? = some (some k) → ρ[j]? = some (some k) → i = j := by
  simp only [rhoB, Bool.and_eq_true, List.all_eq_true, List.mem_range, beq_iff_eq, Bool.or_eq_true, Bool.not_eq_true', beq_eq_false_iff_ne] at h
  refine ⟨h.1, fun i j k hi hj => ?_⟩
  rcases h.2 i (List.getElem?_eq_some_iff.1 hi).1 j (List.getElem?_eq_some_iff.1 hj).1 with (h1 | h1) | h1
  · exact h1
  · rw [hi] at h1; simp at h1
  · exact absurd (by rw [hi, hj]) h1

theorem shift_sg {m : Nat} {h h' : Hp} (ρ : Rho) (hρ : rhoB m ρ = true) (hk : blksK ρ h ρ h' True) {w : World} {X : Nat → Prop} {σ : Sg} (hI : Inv w X σ h) :
    ∃ σ', Inv w X σ' h' ∧ Step m w σ w σ' ∧ Ties σ σ' ρ ∧ ∀ g, Ex X σ' g → Ex X σ g := by
  obtain ⟨_, hrl, hblks⟩ := blksK_sound ρ hk
  obtain ⟨hm, hinj⟩ := rhoB_spec hρ
  have hsl : (sgOf σ ρ h').length = h'.length := by simp [sgOf, hrl]
  have hget : ∀ (i : Nat) (x : Option Nat) (b' : Blk), ρ[i]? = some x → h'[i]? = some b' → (sgOf σ ρ h')[i]? = some (entOf σ x b') := by
    intro i x b' hx hb
    simp [sgOf, List.getElem?_zipWith, hx, hb]
  have hinv : ∀ (i : Nat) (e : Ent), (sgOf σ ρ h')[i]? = some e → ∃ x b', ρ[i]? = some x ∧ h'[i]? = some b' ∧ e = entOf σ x b' := by
    intro i e he
    have hi : i < h'.length := by rw [← hsl]; exact (List.getElem?_eq_some_iff.1 he).1
    have hi' : i < ρ.length := by rw [hrl]; exact hi
    have := hget i _ _ (List.getElem?_eq_getElem hi') (List.getElem?_eq_getElem hi)
    rw [this] at he
    exact ⟨_, _, List.getElem?_eq_getElem hi', List.getElem?_eq_getElem hi, (Option.some.inj he).symm⟩
  have hcase : ∀ (x : Option Nat) (b' : Blk) (g : Nat), (entOf σ x b').blk = some g → ∃ j, x = some j ∧ σ[j]? = some (entOf σ x b') := by
    intro x b' g hg
    cases x with
    | none => cases b' <;> simp [entOf, Ent.blk] at hg
    | some j =>
      refine ⟨j, rfl, ?_⟩
      have e1 : entOf σ (some j) b' = σ.getD j .dead := by
        cases b' <;> first | rfl | (simp [entOf, Ent.blk] at hg)
      rw [e1] at hg ⊢
      cases hj : σ[j]? with
      | none => simp [List.getD, hj, Ent.blk] at hg
      | some e => simp [List.getD, hj]
  have hties : Ties σ (sgOf σ ρ h') ρ := by
    refine ⟨fun b j e hb he hf => ?_, fun b hb => ?_⟩
    · have hi : b < h'.length := by rw [← hrl]; exact (List.getElem?_eq_some_iff.1 hb).1
      have := hget b _ _ hb (List.getElem?_eq_getElem hi)
      rw [this]
      cases h'[b] <;> simp [entOf, List.getD, he]
    · have hi : b < h'.length := by rw [← hrl]; exact (List.getElem?_eq_some_iff.1 hb).1
      have := hget b _ _ hb (List.getElem?_eq_getElem hi)
      rw [this]
      cases h'[b] <;> simp [entOf]
  have hown : ∀ g, Owned (sgOf σ ρ h') g → Owned σ g := by
    rintro g ⟨i, e, he, hg⟩
    obtain ⟨x, b', _, _, rfl⟩ := hinv i e he
    obtain ⟨j, _, hj⟩ := hcase x b' g hg
    exact ⟨j, _, hj, hg⟩
  have hE : ∀ g, Ex X (sgOf σ ρ h') g → Ex X σ g := fun g h => h.elim .inl fun h => .inr (hown g h)
  refine ⟨sgOf σ ρ h', ⟨hsl, fun i b e hb he => ?_, fun i e g he hg => ?_, fun i j e e' g hi hj hg hg' => ?_, fun g hx ho => hI.dis g hx (hown g ho), hI.xlt⟩,
    ⟨rfl, rfl, rfl, Nat.le_refl _, fun _ _ _ => rfl, fun g ho _ => hown g ho, fun i e hi he hf => ?_⟩, hties, hE⟩
  · obtain ⟨x, b', hx, hb', rfl⟩ := hinv i e he
    rw [hb] at hb'
    simp at hb'
    subst hb'
    exact (hblks i x b hx hb).1 w _ _ σ _ hI.len hties hE hI.ok
  · obtain ⟨x, b', _, _, rfl⟩ := hinv i e he
    obtain ⟨j, _, hj⟩ := hcase x b' g hg
    exact hI.lt j _ g hj hg
  · obtain ⟨x, b', hx, _, rfl⟩ := hinv i e hi
    obtain ⟨y, c', hy, _, rfl⟩ := hinv j e' hj
    obtain ⟨k, rfl, hk⟩ := hcase x b' g hg
    obtain ⟨l, rfl, hl⟩ := hcase y c' g hg'
    have := hI.inj k l _ _ g hk hl hg hg'
    subst this
    exact hinj i j k hx hy
  · exact hties.ref i i e (hm i hi) he hf
theorem Shift.of {m : Nat} {F F' : Fr} {h h' : Hp} (ρ : Rho) (hρ : rhoB m ρ = true) (hk : shiftK ρ F h F' h') : Shift m F h F' h' := by
  obtain ⟨hk, hlen, hslots⟩ := slotsK_sound F hk
  refine ⟨fun w X σ tmps hI hF => ?_⟩
  obtain ⟨σ', hI', hS, hties, hE⟩ := shift_sg ρ hρ hk hI
  refine ⟨σ', hI', ⟨hlen ▸ hF.1, fun i s v hs hv => ?_⟩, hS⟩
  have hi : i < F.length := by rw [hlen]; exact (List.getElem?_eq_some_iff.1 hs).1
  exact hslots w _ _ σ _ hties hE i _ s v (List.getElem?_eq_getElem hi) hs (hF.2 i _ v (List.getElem?_eq_getElem hi) hv)

theorem HeadG.of {m n : Nat} {F : Fr} {h : Hp} {sp : List (Nat × SV)} {h' : Hp} (ρ : Rho) (hρ : rhoB m ρ = true) (hk : frmK n sp fun F' => shiftK ρ F h F' h') : HeadG m F h n sp h' :=
  ⟨.of ρ hρ (frmK_sound hk)⟩

/-! ### a row that nobody writes any more -/
noncomputable def mapSlK (b : Nat) (s : SV) (F : Fr) : (Fr → Prop) → Prop :=
  List.rec (motive := fun _ => (Fr → Prop) → Prop) (fun k => k []) (fun x _ ih k => match x with
    | .sl b' => match Nat.beq b' b with
      | true => ih fun r => k (s :: r)
      | false => ih fun r => k (.sl b' :: r)
    | x => ih fun r => k (x :: r)) F
noncomputable def frzK (m b : Nat) (F : Fr) (h : Hp) (K : Fr → Hp → Prop) : Prop :=
  leNK m b (nthK h b fun blk => match blk with
    | .row _ z es => setK h b .dead fun h' => mapSlK b (.rs z es) F fun F' => K F' h'
    | _ => False)
theorem mapSlK_sound {b : Nat} {s : SV} (F : Fr) : ∀ {k : Fr → Prop}, mapSlK b s F k → ∃ F', k F' ∧ F'.length = F.length ∧ ∀ (i : Nat) (x y : SV), F[i]? = some x → F'[i]? = some y → (x = .sl b ∧ y = s) ∨ x = y := by
  induction F with
  | nil => intro k h; exact ⟨[], h, rfl, by simp⟩
  | cons x F ih =>
    intro k h
    have key : ∃ y, mapSlK b s F (fun r => k (y :: r)) ∧ ((x = .sl b ∧ y = s) ∨ x = y) := by
      cases x with
      | sl b' =>
        have h : (match Nat.beq b' b with | true => mapSlK b s F fun r => k (s :: r) | false => mapSlK b s F fun r => k (.sl b' :: r)) := h
        cases hb : Nat.beq b' b with
        | true => rw [hb] at h; exact ⟨s, h, .inl ⟨by rw [Nat.eq_of_beq_eq_true hb], rfl⟩⟩
        | false => rw [hb] at h; exact ⟨_, h, .inr rfl⟩
      | _ => exact ⟨_, h, .inr rfl⟩
    obtain ⟨y, h, hy⟩ := key
    obtain ⟨F', h, hl, hF⟩ := ih h
    refine ⟨_, h, by simp [hl], fun i a c ha hc => ?_⟩
    cases i with
    | zero => simp at ha hc; subst ha; subst hc; exact hy
    | succ i => exact hF i a c (by simpa using ha) (by simpa using hc)
end
end Go.Sx

/- Rows that are given away; what a function hands back. No statement of the seat is proved here. -/
namespace Go.Sx
section
variable {P : Program} {T : Tab}

def FreeBlk (b : Blk) : Prop := match b with | .fix _ cs => ∀ s ∈ cs, FreeSV s | .fresh => False | .prow _ _ _ => False | .pmap _ _ => False | .mit _ _ _ _ => False | .tail _ _ _ => False | _ => True

theorem BlkOK.free {w : World} {E E' : Nat → Prop} {σ σ' : Sg} {b : Blk} {e : Ent} (h : BlkOK w E σ b e) (hb : FreeBlk b) (hE : ∀ g, E' g → E g) : BlkOK w E' σ' b e := by
  cases b <;> cases e <;> simp only [BlkOK] at h ⊢
  case fix.fix =>
    obtain ⟨vs, h1, h2, h3⟩ := h
    exact ⟨vs, h1, h2, fun i s v hs hv => ⟨(hb s (List.mem_of_getElem? hs) w E σ [] v (h3 i s v hs hv).1).le hE σ', (h3 i s v hs hv).2⟩⟩
  case row.row =>
    obtain ⟨h1, h2, h3, h4, vs, h5, h6, h7⟩ := h
    refine ⟨h1, h2, h3, h4, vs, h5, h6, fun i e he => ⟨(h7 i e he).1, fun j s hs => ?_⟩⟩
    obtain ⟨v, a, b, c⟩ := (h7 i e he).2 j s hs
    exact ⟨v, a, b.le hE [], c⟩
  case mapB.obj =>
    obtain ⟨ms, h1, h2, h3⟩ := h
    exact ⟨ms, h1, h2, fun i e m he' hm' => ⟨(h3 i e m he' hm').1.le hE [], (h3 i e m he' hm').2.1.le hE [], (h3 i e m he' hm').2.2⟩⟩
  case glob.fix =>
    obtain ⟨h0, vs, h1, h2, h3⟩ := h
    exact ⟨h0, vs, h1, h2, fun i s v hs hv => ⟨(h3 i s v hs hv).1.le hE [], (h3 i s v hs hv).2⟩⟩
  all_goals first | exact (show False from hb).elim | exact h
theorem BlkOK.le {w : World} {E E' : Nat → Prop} {σ σ' : Sg} {b : Blk} {e : Ent} (h : BlkOK w E σ b e) (hE : ∀ g, E' g → E g)
    (hσ : ∀ (i : Nat) (e : Ent), σ[i]? = some e → e ≠ .fresh → σ'[i]? = some e ∨ σ'[i]? = some .dead) : BlkOK w E' σ' b e := by
  cases b <;> cases e <;> simp only [BlkOK] at h ⊢
  case fix.fix =>
    obtain ⟨vs, h1, h2, h3⟩ := h
    exact ⟨vs, h1, h2, fun i s v hs hv => ⟨(h3 i s v hs hv).1.mono σ' (fun _ _ _ => rfl) (Nat.le_refl _) (fun g _ hn h => hn (hE g h)) hσ, (h3 i s v hs hv).2⟩⟩
  case row.row =>
    obtain ⟨h1, h2, h3, h4, vs, h5, h6, h7⟩ := h
    refine ⟨h1, h2, h3, h4, vs, h5, h6, fun i e he => ⟨(h7 i e he).1, fun j s hs => ?_⟩⟩
    obtain ⟨v, a, b, c⟩ := (h7 i e he).2 j s hs
    exact ⟨v, a, b.le hE [], c⟩
  case prow.row =>
    obtain ⟨h1, h2, h3, h4, vs, h5, h6, h7⟩ := h
    refine ⟨h1, h2, h3, h4, vs, h5, h6, fun i e he => ⟨(h7 i e he).1, fun j s hs => ?_⟩⟩
    obtain ⟨v, a, b, c⟩ := (h7 i e he).2 j s hs
    exact ⟨v, a, b.mono σ' (fun _ _ _ => rfl) (Nat.le_refl _) (fun g _ hn h => hn (hE g h)) hσ, c⟩
  case mapB.obj =>
    obtain ⟨ms, h1, h2, h3⟩ := h
    exact ⟨ms, h1, h2, fun i e m he' hm' => ⟨(h3 i e m he' hm').1.le hE [], (h3 i e m he' hm').2.1.le hE [], (h3 i e m he' hm').2.2⟩⟩
  case tail.row =>
    obtain ⟨h1, h2, h3, h4, vs, h5, h6, h7⟩ := h
    refine ⟨h1, h2, h3, h4, vs, h5, h6, fun i e he => ⟨(h7 i e he).1, fun j s hs => ?_⟩⟩
    obtain ⟨v, a, b, c⟩ := (h7 i e he).2 j s hs
    exact ⟨v, a, b.mono σ' (fun _ _ _ => rfl) (Nat.le_refl _) (fun g _ hn h => hn (hE g h)) hσ, c⟩
  case glob.fix =>
    obtain ⟨h0, vs, h1, h2, h3⟩ := h
    exact ⟨h0, vs, h1, h2, fun i s v hs hv => ⟨(h3 i s v hs hv).1.le hE [], (h3 i s v hs hv).2⟩⟩
  case pmap.obj =>
    obtain ⟨ms, h1, h2, h3⟩ := h
    exact ⟨ms, h1, h2, fun i e m he' hm' => ⟨(h3 i e m he' hm').1.mono σ' (fun _ _ _ => rfl) (Nat.le_refl _) (fun g _ hn h => hn (hE g h)) hσ,
      (h3 i e m he' hm').2.1.mono σ' (fun _ _ _ => rfl) (Nat.le_refl _) (fun g _ hn h => hn (hE g h)) hσ, (h3 i e m he' hm').2.2⟩⟩
  case mit.obj mb _ _ _ _ =>
    obtain ⟨r, h1, h2⟩ := h
    refine ⟨r, h1, ?_⟩
    cases mb with
    | none => exact h2
    | some b =>
      rcases h2 with ⟨g', h2, h3⟩ | h2
      · exact (hσ b _ h2 (by simp)).elim (fun q => .inl ⟨g', q, h3⟩) .inr
      · exact .inr ((hσ b _ h2 (by simp)).elim id id)
  all_goals exact h

/-- The elements of a row, once nobody owns it. -/
theorem rs_of_row {w : World} {E E' : Nat → Prop} {σ σ' : Sg} {t : TypeId} {z : Nat} {es : List (List SV)} {b : Nat} {e : Ent} {v : Value} (hσ : σ[b]? = some e) (hok : BlkOK w E σ (.row t z es) e)
    (hle : ∀ g, E' g → E g) (hE : ∀ g, e.blk = some g → ¬ E' g) (hlt : ∀ g, e.blk = some g → g < w.heap.size) (hr : Rep w E σ (.sl b) v) : Rep w E' σ' (.rs z es) v := by
  cases hr with
  | @sl _ _ g sz n cap hs =>
    rw [hσ] at hs
    simp at hs
    subst hs
    obtain ⟨h1, h2, h3, h4, vs, h5, h6, h7⟩ := hok
    subst h1; subst h2
    refine .rs (val := fun i j => (vs[i * sz + j]?).getD Go.undef) h3 h4 (hE g rfl) (hlt g rfl) (fun i e he => (h7 i e he).1) (fun i e j s he hs => ?_) (fun i e j s he hs => ?_) (fun i e j s he hs => ?_)
    all_goals obtain ⟨v, a, b, c⟩ := (h7 i e he).2 j s hs
    · obtain ⟨fr, h5, _⟩ := h5; rw [cell_at h5, Nat.zero_add, a]; rfl
    · rw [a]; exact c
    · rw [a]; exact b.le hle []
  | slN hs =>
    rw [hσ] at hs
    simp at hs
    subst hs
    have : es = [] := hok
    subst this
    exact .rs0 (Nat.zero_le _)
  | slD hs =>
    rw [hσ] at hs
    simp at hs
    subst hs
    exact hok.elim

theorem Inv.kill {w : World} {X : Nat → Prop} {σ : Sg} {h : Hp} (hI : Inv w X σ h) (m b : Nat) :
    Inv w X (σ.set b .dead) (h.set b .dead) ∧ Step m w σ w (σ.set b .dead) ∧ (∀ g, Owned (σ.set b .dead) g → ∃ i e, i ≠ b ∧ σ[i]? = some e ∧ e.blk = some g) := by
  have hget : ∀ (i : Nat) (e : Ent), (σ.set b .dead)[i]? = some e → (i = b ∧ e = .dead) ∨ (i ≠ b ∧ σ[i]? = some e) := by
    intro i e he
    rw [List.getElem?_set] at he
    by_cases hib : b = i
    · rw [if_pos hib] at he
      split at he
      · simp at he; exact .inl ⟨hib.symm, he.symm⟩
      · simp at he
    · rw [if_neg hib] at he; exact .inr ⟨fun e => hib e.symm, he⟩
  have hown : ∀ g, Owned (σ.set b .dead) g → ∃ i e, i ≠ b ∧ σ[i]? = some e ∧ e.blk = some g := by
    rintro g ⟨i, e, he, hg⟩
    rcases hget i e he with ⟨_, rfl⟩ | ⟨h1, h2⟩
    · simp [Ent.blk] at hg
    · exact ⟨i, e, h1, h2, hg⟩
  have hE : ∀ g, Ex X (σ.set b .dead) g → Ex X σ g := fun g hx => hx.elim .inl fun ho => by
    obtain ⟨i, e, _, he, hg⟩ := hown g ho
    exact .inr ⟨i, e, he, hg⟩
  have hkeep : ∀ (i : Nat) (e : Ent), σ[i]? = some e → e ≠ .fresh → (σ.set b .dead)[i]? = some e ∨ (σ.set b .dead)[i]? = some .dead := by
    intro i e he _
    rw [List.getElem?_set]
    by_cases hib : b = i
    · rw [if_pos hib, if_pos (by rw [hib]; exact (List.getElem?_eq_some_iff.1 he).1)]; exact .inr rfl
    · rw [if_neg hib]; exact .inl he
  refine ⟨⟨by simp [hI.len], fun i bl e hb he => ?_, fun i e g he hg => ?_, fun i j e e' g hi hj hg hg' => ?_, fun g hx ho => ?_, hI.xlt⟩, ⟨rfl, rfl, rfl, Nat.le_refl _, fun _ _ _ => rfl, fun g ho _ => ?_, fun i e _ he hf => hkeep i e he hf⟩, hown⟩
  · rcases hget i e he with ⟨rfl, rfl⟩ | ⟨h1, h2⟩
    · rw [List.getElem?_set, if_pos rfl] at hb
      split at hb
      · simp at hb; subst hb; trivial
      · simp at hb
    · rw [List.getElem?_set, if_neg (fun e => h1 e.symm)] at hb
      exact (hI.ok i bl e hb h2).le hE hkeep
  · rcases hget i e he with ⟨_, rfl⟩ | ⟨_, h2⟩
    · simp [Ent.blk] at hg
    · exact hI.lt i e g h2 hg
  · rcases hget i e hi with ⟨_, rfl⟩ | ⟨_, h2⟩
    · simp [Ent.blk] at hg
    · rcases hget j e' hj with ⟨_, rfl⟩ | ⟨_, h3⟩
      · simp [Ent.blk] at hg'
      · exact hI.inj i j e e' g h2 h3 hg hg'
  · obtain ⟨i, e, _, he, hg⟩ := hown g ho
    exact hI.dis g hx ⟨i, e, he, hg⟩
  · obtain ⟨i, e, _, he, hg⟩ := hown g ho
    exact ⟨i, e, he, hg⟩

theorem frz_sound {m b : Nat} {F : Fr} {h : Hp} {K : Fr → Hp → Prop} (hk : frzK m b F h K) : ∃ F' h', Shift m F h F' h' ∧ K F' h' := by
  obtain ⟨_, hk⟩ := leNK_sound hk
  obtain ⟨blk, hb, hk⟩ := nthK_sound hk
  cases blk with
  | row t z es =>
    obtain ⟨hlt, hk⟩ := setK_sound (show setK h b .dead _ from hk)
    obtain ⟨F', hk, hl, hF'⟩ := mapSlK_sound F hk
    refine ⟨F', _, ⟨fun w X σ tmps hI hF => ?_⟩, hk⟩
    obtain ⟨hI', hS, hown⟩ := hI.kill m b
    have hσb : σ[b]? = some (σ[b]'(by rw [hI.len]; exact hlt)) := List.getElem?_eq_getElem _
    have hE : ∀ g, Ex X (σ.set b .dead) g → Ex X σ g := fun g hx => hx.elim .inl fun ho => by
      obtain ⟨i, e, _, he, hg⟩ := hown g ho
      exact .inr ⟨i, e, he, hg⟩
    refine ⟨_, hI', ⟨by rw [hl]; exact hF.1, fun i s v hs hv => ?_⟩, hS⟩
    have hi : i < F.length := by rw [← hl]; exact (List.getElem?_eq_some_iff.1 hs).1
    have hr := hF.2 i _ v (List.getElem?_eq_getElem hi) hv
    rcases hF' i _ s (List.getElem?_eq_getElem hi) hs with ⟨e1, e2⟩ | e1
    · subst e2
      rw [e1] at hr
      refine rs_of_row hσb (hI.ok b _ _ hb hσb) hE (fun g hg hx => ?_) (fun g hg => hI.lt b _ g hσb hg) hr
      rcases hx with hx | ho
      · exact hI.dis g hx ⟨b, _, hσb, hg⟩
      · obtain ⟨j, e, hne, he, hg'⟩ := hown g ho
        exact hne (hI.inj j b e _ g he hσb hg' hg)
    · rw [← e1]
      exact hr.mono _ (fun _ _ _ => rfl) (Nat.le_refl _) (fun g _ hn h => hn (hE g h)) (fun j e he hf => by
        rw [List.getElem?_set]
        by_cases hjb : b = j
        · rw [if_pos hjb, if_pos (by rw [hjb]; exact (List.getElem?_eq_some_iff.1 he).1)]; exact .inr rfl
        · rw [if_neg hjb]; exact .inl he)
  | _ => exact hk.elim
theorem XG.freeze {m : Nat} {F : Fr} {h : Hp} {K : Fr → Hp → Prop} (b : Nat) (hk : frzK m b F h fun F' h' => XG m F' h' K) : XG m F h K := by
  obtain ⟨F', h', hs, hk⟩ := frz_sound hk
  exact hk.step hs

/-! ### what a function hands back -/
def ToR (k : Nat) (h : Hp) (s s' : SV) : Prop := ∀ (w : World) (X : Nat → Prop) (σ : Sg) (E' : Nat → Prop) (v : Value), Inv w X σ h → (∀ g, E' g → Ex X σ g) →
  (∀ (i : Nat) (e : Ent) (g : Nat), k ≤ i → σ[i]? = some e → e.blk = some g → ¬ E' g) → Rep w (Ex X σ) σ s v → Rep w E' [] s' v
theorem ToR.of_free {k : Nat} {h : Hp} {s s' : SV} (hf : ∀ w E σ v, Rep w E σ s v → Rep w E [] s' v) : ToR k h s s' := fun w _ σ _ v _ hE _ hr => (hf w _ σ v hr).le hE []

def out1HK (k : Nat) (h : Hp) (s : SV) (K : SV → Prop) : Prop :=
  match s with
  | .sl b => leNK k b (nthK h b fun blk => match blk with | .row _ z es => K (.rs z es) | _ => False)
  | .tt => K (.bool true) | .ff => K (.bool false) | .bool b => K (.bool b)
  | .int q n => K (.int q n) | .str s => K (.str s) | .nilp => K .nilp | .nils => K .nils | .rs z es => K (.rs z es) | .rp z es i f => K (.rp z es i f)
  | _ => False
noncomputable def outs1HK (k : Nat) (h : Hp) (l : List SV) : (List SV → Prop) → Prop :=
  List.rec (motive := fun _ => (List SV → Prop) → Prop) (fun K => K []) (fun x _ ih K => out1HK k h x fun y => ih fun r => K (y :: r)) l
noncomputable def out2HK (k : Nat) (h : Hp) (s : SV) (K : SV → Prop) : Prop :=
  match s with
  | .agg cs => outs1HK k h cs fun c => K (.agg c)
  | s => out1HK k h s K
noncomputable def outs2HK (k : Nat) (h : Hp) (l : List SV) : (List SV → Prop) → Prop :=
  List.rec (motive := fun _ => (List SV → Prop) → Prop) (fun K => K []) (fun x _ ih K => out2HK k h x fun y => ih fun r => K (y :: r)) l
noncomputable def outHK (k : Nat) (h : Hp) (s : SV) (K : SV → Prop) : Prop :=
  match s with
  | .tup vs => outs2HK k h vs fun l => K (.tup l)
  | s => out2HK k h s K

theorem out1HK_sound {k : Nat} {h : Hp} {s : SV} {K : SV → Prop} (hk : out1HK k h s K) : ∃ s', K s' ∧ ToR k h s s' ∧ FreeSV s' := by
  unfold out1HK at hk
  split at hk
  case h_1 b =>
    obtain ⟨hkb, hk⟩ := leNK_sound hk
    obtain ⟨blk, hb, hk⟩ := nthK_sound hk
    cases blk with
    | row t z es =>
      refine ⟨_, hk, fun w X σ E' v hI hE hno hr => ?_, fun w E σ σ' v hr => by cases hr <;> constructor <;> assumption⟩
      have hlt : b < σ.length := by rw [hI.len]; exact (List.getElem?_eq_some_iff.1 hb).1
      have hσb : σ[b]? = some σ[b] := List.getElem?_eq_getElem hlt
      exact rs_of_row hσb (hI.ok b _ _ hb hσb) hE (fun g hg => hno b _ g hkb hσb hg) (fun g hg => hI.lt b _ g hσb hg) hr
    | _ => exact hk.elim
  all_goals first
    | exact hk.elim
    | exact ⟨_, hk, .of_free fun w E σ v hr => by (cases hr <;> first | (constructor; done) | (constructor <;> assumption)), fun w E σ σ' v hr => by (cases hr <;> first | (constructor; done) | (constructor <;> assumption))⟩
def ToRL (k : Nat) (h : Hp) (l l' : List SV) : Prop := l.length = l'.length ∧ ∀ (i : Nat) (s s' : SV), l[i]? = some s → l'[i]? = some s' → ToR k h s s'
theorem outs_sound {k : Nat} {h : Hp} {f : SV → (SV → Prop) → Prop} (hf : ∀ {s : SV} {K : SV → Prop}, f s K → ∃ s', K s' ∧ ToR k h s s' ∧ FreeSV s') (l : List SV) : ∀ {K : List SV → Prop},
    List.rec (motive := fun _ => (List SV → Prop) → Prop) (fun K => K []) (fun x _ ih K => f x fun y => ih fun r => K (y :: r)) l K → ∃ l', K l' ∧ ToRL k h l l' ∧ ∀ s ∈ l', FreeSV s := by
  induction l with
  | nil => intro K h; exact ⟨[], h, ⟨rfl, by simp⟩, by simp⟩
  | cons x l ih =>
    intro K h
    obtain ⟨y, h, hy, hfy⟩ := hf h
    obtain ⟨l', h, ⟨hl, hl'⟩, hfl⟩ := ih h
    refine ⟨y :: l', h, ⟨by simp [hl], fun i s s' hs hs' => ?_⟩, fun s hs => ?_⟩
    · cases i with
      | zero => simp at hs hs'; subst hs; subst hs'; exact hy
      | succ i => exact hl' i s s' (by simpa using hs) (by simpa using hs')
    · rcases List.mem_cons.1 hs with rfl | hs
      · exact hfy
      · exact hfl s hs
theorem out2HK_sound {k : Nat} {h : Hp} {s : SV} {K : SV → Prop} (hk : out2HK k h s K) : ∃ s', K s' ∧ ToR k h s s' ∧ FreeSV s' := by
  cases s with
  | agg cs =>
    obtain ⟨l, hk, ⟨hl, hto⟩, hfr⟩ := outs_sound out1HK_sound cs (show outs1HK k h cs _ from hk)
    refine ⟨_, hk, fun w X σ E' v hI hE hno hr => ?_, fun w E σ σ' v hr => ?_⟩
    · cases hr with
      | agg hl' ho hc =>
        refine .agg (hl ▸ hl') ho fun i s v hs hv => ?_
        have hi : i < cs.length := by rw [hl]; exact (List.getElem?_eq_some_iff.1 hs).1
        exact hto i _ s (List.getElem?_eq_getElem hi) hs w X σ E' v hI hE hno (hc i _ v (List.getElem?_eq_getElem hi) hv)
    · cases hr with
      | agg hl' ho hc => exact .agg hl' ho fun i s v hs hv => hfr s (List.mem_of_getElem? hs) w E σ σ' v (hc i s v hs hv)
  | _ => exact out1HK_sound hk
theorem outHK_sound {k : Nat} {h : Hp} {s : SV} {K : SV → Prop} (hk : outHK k h s K) : ∃ s', K s' ∧ ToR k h s s' ∧ FreeSV s' := by
  cases s with
  | tup cs =>
    obtain ⟨l, hk, ⟨hl, hto⟩, hfr⟩ := outs_sound out2HK_sound cs (show outs2HK k h cs _ from hk)
    refine ⟨_, hk, fun w X σ E' v hI hE hno hr => ?_, fun w E σ σ' v hr => ?_⟩
    · cases hr with
      | tup hl' hc =>
        refine .tup (hl ▸ hl') fun i s v hs hv => ?_
        have hi : i < cs.length := by rw [hl]; exact (List.getElem?_eq_some_iff.1 hs).1
        exact hto i _ s (List.getElem?_eq_getElem hi) hs w X σ E' v hI hE hno (hc i _ v (List.getElem?_eq_getElem hi) hv)
    · cases hr with
      | tup hl' hc => exact .tup hl' fun i s v hs hv => hfr s (List.mem_of_getElem? hs) w E σ σ' v (hc i s v hs hv)
  | _ => exact out2HK_sound hk
end
end Go.Sx

/- Functions that are handed blocks of the caller's. No statement of the seat is proved here. -/
namespace Go.Sx
section
variable {P : Program} {T : Tab}

/-- A call of f at these arguments, where the blocks that it is handed are as 'hin' says (and no others are at hand): it hands back s and leaves those blocks as 'ho' says, of which R holds. -/
structure OSpec (P : Program) (f : FuncId) (args : List SV) (hin : Hp) (R : SV → Hp → Prop) : Prop where
  fin : ∀ b ∈ hin, FreeBlk b
  ok : ∀ (w : World) (X : Nat → Prop) (σ : Sg) (vs : List Value), Inv w X σ hin → RepL w (Ex X σ) σ args vs → DoneS P (callFunc f vs.toArray) w fun v w' =>
    ∃ s ho σ', R s ho ∧ ho.length = hin.length ∧ FreeSV s ∧ (∀ b ∈ ho, FreeBlk b) ∧ Rep w' (Ex X σ') [] s v ∧ Inv w' X σ' ho ∧ Step hin.length w σ w' σ'

def freeBlkK (b : Blk) (k : Prop) : Prop := match b with | .fix _ cs => puresK cs k | .row _ _ _ => k | .dead => k | _ => False
noncomputable def freeBlksK (l : Hp) (k : Prop) : Prop := List.rec (motive := fun _ => Prop) k (fun b _ ih => freeBlkK b ih) l
theorem freeBlksK_sound {l : Hp} {k : Prop} (h : freeBlksK l k) : k ∧ ∀ b ∈ l, FreeBlk b := by
  induction l with
  | nil => exact ⟨h, by simp⟩
  | cons b l ih =>
    have h : freeBlkK b (freeBlksK l k) := h
    have key : freeBlksK l k ∧ FreeBlk b := by
      cases b with
      | fix t cs => obtain ⟨h1, h2⟩ := puresK_sound h; exact ⟨h1, h2⟩
      | row t z es => exact ⟨h, trivial⟩
      | dead => exact ⟨h, trivial⟩
      | _ => exact h.elim
    obtain ⟨h1, h2⟩ := ih key.1
    refine ⟨h1, fun c hc => ?_⟩
    rcases List.mem_cons.1 hc with rfl | hc
    · exact key.2
    · exact h2 c hc

theorem Inv.cut {w : World} {X : Nat → Prop} {σ : Sg} {h : Hp} (hI : Inv w X σ h) (k : Nat) (hf : ∀ b ∈ h.take k, FreeBlk b) :
    Inv w X (σ.take k) (h.take k) ∧ (∀ g, Owned (σ.take k) g → Owned σ g) := by
  have hget : ∀ (i : Nat) (e : Ent), (σ.take k)[i]? = some e → i < k ∧ σ[i]? = some e := by
    intro i e he
    rw [List.getElem?_take] at he
    split at he
    · rename_i hi; exact ⟨hi, he⟩
    · simp at he
  have hown : ∀ g, Owned (σ.take k) g → Owned σ g := fun g ⟨i, e, he, hg⟩ => ⟨i, e, (hget i e he).2, hg⟩
  refine ⟨⟨by simp [hI.len], fun i b e hb he => ?_, fun i e g he hg => hI.lt i e g (hget i e he).2 hg, fun i j e e' g hi hj hg hg' => hI.inj i j e e' g (hget i e hi).2 (hget j e' hj).2 hg hg', fun g hx ho => hI.dis g hx (hown g ho), hI.xlt⟩, hown⟩
  have hfb := hf b (List.mem_of_getElem? hb)
  rw [List.getElem?_take] at hb
  split at hb
  · exact (hI.ok i b e hb (hget i e he).2).free hfb fun g hx => hx.elim .inl fun ho => .inr (hown g ho)
  · simp at hb

theorem OSpec.of_call {f : FuncId} {args : List SV} {hin : Hp} {R : SV → Hp → Prop} (hfin : ∀ b ∈ hin, FreeBlk b)
    (hc : CallG P f args hin fun s h' => outHK hin.length h' s fun s' => takeK hin.length h' fun ho => freeBlksK ho (R s' ho)) : OSpec P f args hin R := by
  refine ⟨hfin, fun w X σ vs hI hr => (hc.ok w X σ vs hI hr).mono fun v w' ⟨s, h', σ', hk, hrep, hI', hS⟩ => ?_⟩
  obtain ⟨s', hk, hto, hfs⟩ := outHK_sound hk
  obtain ⟨hlen, hk⟩ := takeK_sound hk
  obtain ⟨hR, hfb⟩ := freeBlksK_sound hk
  obtain ⟨hI2, hown⟩ := hI'.cut hin.length hfb
  have hE : ∀ g, Ex X (σ'.take hin.length) g → Ex X σ' g := fun g hx => hx.elim .inl fun ho => .inr (hown g ho)
  refine ⟨s', _, σ'.take hin.length, hR, by simp [hlen], hfs, hfb, hto w' X σ' _ v hI' hE (fun i e g hi he hg hx => ?_) hrep, hI2, ⟨hS.os, hS.tape, hS.output, hS.size, hS.frame, fun g ho hg => hS.blks g (hown g ho) hg, fun i e hi he hf => ?_⟩⟩
  · rcases hx with hx | ⟨j, e', he', hg'⟩
    · exact hI'.dis g hx ⟨i, e, he, hg⟩
    · rw [List.getElem?_take] at he'
      split at he'
      · rename_i hj
        have := hI'.inj i j e e' g he he' hg hg'
        omega
      · simp at he'
  · rw [List.getElem?_take, if_pos hi]
    exact hS.ents i e (by rw [hI.len]; exact hi) he hf

theorem OSpec.of_code (hT : TabOK P T) {f : FuncId} {fn : Func} {c : Code} {args : List SV} {hin : Hp} {R : SV → Hp → Prop} (hf : P.funcs[f]? = some fn) (hn : (fn.name == "runtime.NumGoroutine") = false)
    (hb : fn.body = some c) (hfin : freeBlksK hin True)
    (hk : startK args fn.ntmps fun F => codeK P T hin.length c F hin (retK T fn fun s h' => outHK hin.length h' s fun s' => takeK hin.length h' fun ho => freeBlksK ho (R s' ho))) : OSpec P f args hin R :=
  .of_call (freeBlksK_sound hfin).2 (CallG.of_code hT hf hn hb hk)
theorem OSpec.mono {f : FuncId} {args : List SV} {hin : Hp} {R R' : SV → Hp → Prop} (hs : OSpec P f args hin R) (hr : ∀ s h, R s h → R' s h) : OSpec P f args hin R' :=
  ⟨hs.fin, fun w X σ vs hI hrp => (hs.ok w X σ vs hI hrp).mono fun _ _ ⟨s, ho, σ', h1, h2⟩ => ⟨s, ho, σ', hr _ _ h1, h2⟩⟩

/-! ### at the caller's -/
def argK (ρ : List Nat) (s s' : SV) (k : Prop) : Prop :=
  match s with
  | .ptr b o => match s' with | .ptr b' o' => nthK ρ b fun j => eqNK j b' (eqNK o o' k) | _ => False
  | .sl b => match s' with | .sl b' => nthK ρ b fun j => eqNK j b' k | _ => False
  | s => s' = s ∧ free1K s k
noncomputable def argsK (ρ : List Nat) (l : List SV) : List SV → Prop → Prop :=
  List.rec (motive := fun _ => List SV → Prop → Prop) (fun l' k => List.rec (motive := fun _ => Prop) k (fun _ _ _ => False) l')
    (fun s _ ih l' k => List.rec (motive := fun _ => Prop) False (fun s' t' _ => argK ρ s s' (ih t' k)) l') l
noncomputable def insK (h : Hp) (ρ : List Nat) : Hp → Prop → Prop :=
  List.rec (motive := fun _ => Hp → Prop → Prop) (fun hin k => List.rec (motive := fun _ => Prop) k (fun _ _ _ => False) hin)
    (fun j _ ih hin k => List.rec (motive := fun _ => Prop) False (fun b t _ => nthK h j fun b' => b' = b ∧ ih t k) hin) ρ
/-- The caller's blocks, after the call. -/
noncomputable def backK (ρ : List Nat) : Hp → Hp → (Hp → Prop) → Prop :=
  List.rec (motive := fun _ => Hp → Hp → (Hp → Prop) → Prop) (fun _ h K => K h)
    (fun j _ ih ho h K => List.rec (motive := fun _ => Prop) False (fun b t _ => setK h j b fun h' => ih t h' K) ho) ρ
def back (ρ : List Nat) (ho h : Hp) : Hp := upd (ρ.zip ho) h

theorem backK_sound (ρ : List Nat) : ∀ {ho h : Hp} {K : Hp → Prop}, backK ρ ho h K → K (back ρ ho h) := by
  induction ρ with
  | nil => intro ho h K hk; exact hk
  | cons j ρ ih =>
    intro ho h K hk
    cases ho with
    | nil => exact hk.elim
    | cons b ho => exact ih (setK_sound (show setK h j b _ from hk)).2
theorem insK_sound {h : Hp} (ρ : List Nat) : ∀ {hin : Hp} {k : Prop}, insK h ρ hin k → k ∧ ρ.length = hin.length ∧ ∀ (i j : Nat) (b : Blk), ρ[i]? = some j → hin[i]? = some b → h[j]? = some b := by
  induction ρ with
  | nil =>
    intro hin k hk
    cases hin with
    | nil => exact ⟨hk, rfl, by simp⟩
    | cons b t => exact hk.elim
  | cons j ρ ih =>
    intro hin k hk
    cases hin with
    | nil => exact hk.elim
    | cons b t =>
      obtain ⟨b', hb, e, hk2⟩ := nthK_sound (show nthK h j _ from hk)
      subst e
      obtain ⟨hk, hl, hr⟩ := ih hk2
      refine ⟨hk, by simp [hl], fun i j' c hi hc => ?_⟩
      cases i with
      | zero => simp at hi hc; subst hi; subst hc; exact hb
      | succ i => exact hr i j' c (by simpa using hi) (by simpa using hc)

/-- The entries of the blocks that are handed over. -/
def pickSg (σ : Sg) (ρ : List Nat) : Sg := ρ.map fun j => σ.getD j .dead

theorem argK_sound {ρ : List Nat} {s s' : SV} {k : Prop} (h : argK ρ s s' k) : k ∧ ∀ (w : World) (E E' : Nat → Prop) (σ : Sg) (v : Value), (∀ g, E' g → E g) → (∀ j ∈ ρ, j < σ.length) → Rep w E σ s' v → Rep w E' (pickSg σ ρ) s v := by
  have hpick : ∀ (σ : Sg) (b j : Nat) (e : Ent), ρ[b]? = some j → σ[j]? = some e → (pickSg σ ρ)[b]? = some e := by
    intro σ b j e hb he
    simp [pickSg, hb, List.getD, he]
  have same : ∀ {s s' : SV} {k : Prop}, (s' = s ∧ free1K s k) → k ∧ ∀ (w : World) (E E' : Nat → Prop) (σ : Sg) (v : Value), (∀ g, E' g → E g) → (∀ j ∈ ρ, j < σ.length) → Rep w E σ s' v → Rep w E' (pickSg σ ρ) s v := by
    intro s s' k ⟨e, h⟩
    subst e
    obtain ⟨h, hf⟩ := free1K_sound h
    exact ⟨h, fun w E E' σ v hE _ hr => (hf w E σ [] v hr).le hE _⟩
  cases s with
  | ptr b o =>
    cases s' with
    | ptr b' o' =>
      obtain ⟨j, hj, h⟩ := nthK_sound (show nthK ρ b _ from h)
      obtain ⟨e1, h⟩ := eqNK_sound h
      obtain ⟨e2, h2⟩ := eqNK_sound h
      subst e1; subst e2
      refine ⟨h2, fun w E E' σ v _ _ hr => ?_⟩
      cases hr with
      | ptr hg => exact .ptr (hpick σ b _ _ hj hg)
      | ptrD hg => exact .ptrD (hpick σ b _ _ hj hg)
    | _ => exact h.elim
  | sl b =>
    cases s' with
    | sl b' =>
      obtain ⟨j, hj, h⟩ := nthK_sound (show nthK ρ b _ from h)
      obtain ⟨e1, h2⟩ := eqNK_sound h
      subst e1
      refine ⟨h2, fun w E E' σ v _ _ hr => ?_⟩
      cases hr with
      | sl hg => exact .sl (hpick σ b _ _ hj hg)
      | slN hg => exact .slN (hpick σ b _ _ hj hg)
      | slD hg => exact .slD (hpick σ b _ _ hj hg)
    | _ => exact h.elim
  | _ => exact same h
theorem argsK_sound {ρ : List Nat} (l : List SV) : ∀ {l' : List SV} {k : Prop}, argsK ρ l l' k → k ∧ ∀ (w : World) (E E' : Nat → Prop) (σ : Sg) (vs : List Value), (∀ g, E' g → E g) → (∀ j ∈ ρ, j < σ.length) → RepL w E σ l' vs → RepL w E' (pickSg σ ρ) l vs := by
  induction l with
  | nil =>
    intro l' k h
    cases l' with
    | nil => exact ⟨h, fun w E E' σ vs _ _ hr => ⟨hr.1, by simp⟩⟩
    | cons x t => exact h.elim
  | cons s l ih =>
    intro l' k h
    cases l' with
    | nil => exact h.elim
    | cons s' l' =>
      obtain ⟨h, h1⟩ := argK_sound (show argK ρ s s' (argsK ρ l l' k) from h)
      obtain ⟨h, h2⟩ := ih h
      refine ⟨h, fun w E E' σ vs hE hρ hr => ?_⟩
      cases vs with
      | nil => exact absurd hr.1 (by simp)
      | cons v vs =>
        exact repl_cons (h1 w E E' σ v hE hρ (hr.2 0 _ _ rfl rfl)) (h2 w E E' σ vs hE hρ ⟨by simpa using hr.1, fun i a c ha hc => hr.2 (i + 1) a c (by simpa using ha) (by simpa using hc)⟩)

theorem upd_at (l : List (Nat × Blk)) : ∀ {h : Hp}, (l.map (·.1)).Nodup → ∀ p ∈ l, p.1 < h.length → (upd l h)[p.1]? = some p.2 := by
  induction l with
  | nil => intro h _ p hp; simp at hp
  | cons q l ih =>
    intro h hn p hp hlt
    rw [List.map_cons, List.nodup_cons] at hn
    rcases List.mem_cons.1 hp with rfl | hp
    · have : (upd l (h.set p.1 p.2))[p.1]? = (h.set p.1 p.2)[p.1]? := upd_get l fun r hr he => hn.1 (by rw [← he]; exact List.mem_map.2 ⟨r, hr, rfl⟩)
      show (upd l (h.set p.1 p.2))[p.1]? = _
      rw [this, List.getElem?_set, if_pos rfl, if_pos hlt]
    · exact ih (h := h.set q.1 q.2) hn.2 p hp (by simpa using hlt)
end
end Go.Sx

/- What a call leaves behind: blocks are numbered anew, what is not reached is dropped. No statement of the seat is proved here. -/
namespace Go.Sx
section

/-- Old entries stay; a new one goes to its new number. -/
structure TieN (m : Nat) (ok : Nat → Bool) (al : List (Nat × Nat)) (σ σ' : Sg) : Prop where
  old : ∀ (i : Nat) (e : Ent), i < m → ok i = true → σ[i]? = some e → e ≠ .fresh → σ'[i]? = some e
  new : ∀ (a j : Nat) (e : Ent), (a, j) ∈ al → σ[a]? = some e → σ'[j]? = some e
/-- What a value is under the new numbers. -/
def RnOK (m : Nat) (ok : Nat → Bool) (al : List (Nat × Nat)) (s s' : SV) : Prop :=
  ∀ (w : World) (E E' : Nat → Prop) (σ σ' : Sg) (v : Value), TieN m ok al σ σ' → (∀ g, E' g → E g) → Rep w E σ s v → Rep w E' σ' s' v

noncomputable def assocK (a : Nat) (al : List (Nat × Nat)) (k : Nat → Prop) : Prop :=
  List.rec (motive := fun _ => Prop) False (fun p _ ih => bFork (Nat.beq p.1 a) (k p.2) ih) al
theorem assocK_sound {a : Nat} (al : List (Nat × Nat)) {k : Nat → Prop} (h : assocK a al k) : ∃ j, (a, j) ∈ al ∧ k j := by
  induction al with
  | nil => exact h.elim
  | cons p al ih =>
    rcases bFork_sound (show bFork (Nat.beq p.1 a) (k p.2) (assocK a al k) from h) with ⟨hb, h1⟩ | ⟨_, h⟩
    · have hb := Nat.eq_of_beq_eq_true hb
      exact ⟨p.2, by rw [← hb]; simp, h1⟩
    · obtain ⟨j, h1, h2⟩ := ih h
      exact ⟨j, by simp [h1], h2⟩
/-- A block's new number. -/
noncomputable def rnNK (m : Nat) (ok : Nat → Bool) (al : List (Nat × Nat)) (b : Nat) (k : Nat → Prop) : Prop := bFork (Nat.ble m b) (assocK b al k) (bChk (ok b) (k b))
theorem rnNK_sound {m : Nat} {ok : Nat → Bool} {al : List (Nat × Nat)} {b : Nat} {k : Nat → Prop} (h : rnNK m ok al b k) : ∃ j, k j ∧ ∀ (σ σ' : Sg) (e : Ent), TieN m ok al σ σ' → σ[b]? = some e → e ≠ .fresh → σ'[j]? = some e := by
  rcases bFork_sound h with ⟨hb, h⟩ | ⟨hb, h⟩
  · obtain ⟨j, h1, h2⟩ := assocK_sound al h
    exact ⟨j, h2, fun σ σ' e ht he _ => ht.new b j e h1 he⟩
  · have hlt : b < m := by
      rcases Nat.lt_or_ge b m with h' | h'
      · exact h'
      · rw [Nat.ble_eq_true_of_le h'] at hb; simp at hb
    obtain ⟨hok, h⟩ := bChk_sound h
    exact ⟨b, h, fun σ σ' e ht he hf => ht.old b e hlt hok he hf⟩
noncomputable def rn0K (m : Nat) (ok : Nat → Bool) (al : List (Nat × Nat)) (s : SV) (k : SV → Prop) : Prop :=
  match s with
  | .ptr b o => rnNK m ok al b fun j => k (.ptr j o)
  | .ep b i f => rnNK m ok al b fun j => k (.ep j i f)
  | .sl b => rnNK m ok al b fun j => k (.sl j)
  | .any => k .any | .undef => k .undef | .int q n => k (.int q n) | .tt => k .tt | .ff => k .ff | .bool b => k (.bool b) | .str s => k (.str s)
  | .nilp => k .nilp | .nils => k .nils | .rs z es => k (.rs z es) | .rp z es i f => k (.rp z es i f) | .iv q a l h m r => k (.iv q a l h m r) | .tl b n => rnNK m ok al b fun j => k (.tl j n) | .tp b n i f => rnNK m ok al b fun j => k (.tp j n i f)
  | .mp b => rnNK m ok al b fun j => k (.mp j) | .nilm => k .nilm | .nili => k .nili | .z0 => k .z0
  | .ss b l n => rnNK m ok al b fun j => k (.ss j l n) | .it b => rnNK m ok al b fun j => k (.it j)
  | _ => False
theorem RnOK.of_free {m : Nat} {ok : Nat → Bool} {al : List (Nat × Nat)} {s : SV} (hf : FreeSV s) : RnOK m ok al s s := fun w _ _ σ σ' v _ hE hr => (hf w _ σ [] v hr).le hE σ'
theorem rn0K_sound {m : Nat} {ok : Nat → Bool} {al : List (Nat × Nat)} {s : SV} {k : SV → Prop} (h : rn0K m ok al s k) : ∃ s', k s' ∧ RnOK m ok al s s' := by
  cases s <;> simp only [rn0K] at h
  case ptr b o =>
    obtain ⟨j, h, hj⟩ := rnNK_sound h
    refine ⟨_, h, fun w E E' σ σ' v hm _ hr => ?_⟩
    cases hr with
    | ptr hg => exact .ptr (hj _ _ _ hm hg (by simp))
    | ptrD hg => exact .ptrD (hj _ _ _ hm hg (by simp))
  case ep b i f =>
    obtain ⟨j, h, hj⟩ := rnNK_sound h
    refine ⟨_, h, fun w E E' σ σ' v hm _ hr => ?_⟩
    cases hr with
    | ep hg => exact .ep (hj _ _ _ hm hg (by simp))
    | epD hg => exact .epD (hj _ _ _ hm hg (by simp))
  case sl b =>
    obtain ⟨j, h, hj⟩ := rnNK_sound h
    refine ⟨_, h, fun w E E' σ σ' v hm _ hr => ?_⟩
    cases hr with
    | sl hg => exact .sl (hj _ _ _ hm hg (by simp))
    | slN hg => exact .slN (hj _ _ _ hm hg (by simp))
    | slD hg => exact .slD (hj _ _ _ hm hg (by simp))
  case mp b =>
    obtain ⟨j, h, hj⟩ := rnNK_sound h
    refine ⟨_, h, fun w E E' σ σ' v hm _ hr => ?_⟩
    cases hr with
    | mp hg => exact .mp (hj _ _ _ hm hg (by simp))
    | mpD hg => exact .mpD (hj _ _ _ hm hg (by simp))
  case ss b l n =>
    obtain ⟨j, h, hj⟩ := rnNK_sound h
    refine ⟨_, h, fun w E E' σ σ' v hm _ hr => ?_⟩
    cases hr with
    | ss hg hl ho => exact .ss (hj _ _ _ hm hg (by simp)) hl ho
    | ssN hg => exact .ssN (hj _ _ _ hm hg (by simp))
    | ssD hg => exact .ssD (hj _ _ _ hm hg (by simp))
  case it b =>
    obtain ⟨j, h, hj⟩ := rnNK_sound h
    refine ⟨_, h, fun w E E' σ σ' v hm _ hr => ?_⟩
    cases hr with
    | it hg => exact .it (hj _ _ _ hm hg (by simp))
    | itD hg => exact .itD (hj _ _ _ hm hg (by simp))
  case tl b n =>
    obtain ⟨j, h, hj⟩ := rnNK_sound h
    refine ⟨_, h, fun w E E' σ σ' v hm _ hr => ?_⟩
    cases hr with
    | tl hg h1 h2 => exact .tl (hj _ _ _ hm hg (by simp)) h1 h2
    | tlD hg => exact .tlD (hj _ _ _ hm hg (by simp))
  case tp b n i f =>
    obtain ⟨j, h, hj⟩ := rnNK_sound h
    refine ⟨_, h, fun w E E' σ σ' v hm _ hr => ?_⟩
    cases hr with
    | tp hg => exact .tp (hj _ _ _ hm hg (by simp))
    | tpD hg => exact .tpD (hj _ _ _ hm hg (by simp))
  case any => exact ⟨_, h, fun _ _ _ _ _ _ _ _ _ => .any⟩
  all_goals first
    | exact h.elim
    | exact ⟨_, h, .of_free fun w E σ σ' v hr => by (cases hr <;> first | (constructor; done) | (constructor <;> assumption))⟩

def RnL (m : Nat) (ok : Nat → Bool) (al : List (Nat × Nat)) (l l' : List SV) : Prop := l.length = l'.length ∧ ∀ (i : Nat) (s s' : SV), l[i]? = some s → l'[i]? = some s' → RnOK m ok al s s'
noncomputable def rnsK (f : SV → (SV → Prop) → Prop) (l : List SV) : (List SV → Prop) → Prop :=
  List.rec (motive := fun _ => (List SV → Prop) → Prop) (fun k => k []) (fun x _ ih k => f x fun y => ih fun r => k (y :: r)) l
theorem rnsK_sound {m : Nat} {ok : Nat → Bool} {al : List (Nat × Nat)} {f : SV → (SV → Prop) → Prop} (hf : ∀ {s : SV} {k : SV → Prop}, f s k → ∃ s', k s' ∧ RnOK m ok al s s') (l : List SV) : ∀ {k : List SV → Prop},
    rnsK f l k → ∃ l', k l' ∧ RnL m ok al l l' := by
  induction l with
  | nil => intro k h; exact ⟨[], h, rfl, by simp⟩
  | cons x l ih =>
    intro k h
    obtain ⟨y, h, hy⟩ := hf (show f x _ from h)
    obtain ⟨l', h, hl, hl'⟩ := ih h
    refine ⟨_, h, by simp [hl], fun i s s' hs hs' => ?_⟩
    cases i with
    | zero => simp at hs hs'; subst hs; subst hs'; exact hy
    | succ i => exact hl' i s s' (by simpa using hs) (by simpa using hs')
theorem RnL.agg {m : Nat} {ok : Nat → Bool} {al : List (Nat × Nat)} {cs l : List SV} (h : RnL m ok al cs l) : RnOK m ok al (.agg cs) (.agg l) := fun w E E' σ σ' v hm hE hr => by
  cases hr with
  | agg hl h1 hc =>
    exact .agg (by rw [← h.1]; exact hl) h1 fun i s v hs hv => by
      have hi : i < cs.length := by rw [h.1]; exact (List.getElem?_eq_some_iff.1 hs).1
      exact h.2 i _ s (List.getElem?_eq_getElem hi) hs w E E' σ σ' v hm hE (hc i _ v (List.getElem?_eq_getElem hi) hv)
theorem RnL.tup {m : Nat} {ok : Nat → Bool} {al : List (Nat × Nat)} {cs l : List SV} (h : RnL m ok al cs l) : RnOK m ok al (.tup cs) (.tup l) := fun w E E' σ σ' v hm hE hr => by
  cases hr with
  | tup hl hc =>
    exact .tup (by rw [← h.1]; exact hl) fun i s v hs hv => by
      have hi : i < cs.length := by rw [h.1]; exact (List.getElem?_eq_some_iff.1 hs).1
      exact h.2 i _ s (List.getElem?_eq_getElem hi) hs w E E' σ σ' v hm hE (hc i _ v (List.getElem?_eq_getElem hi) hv)
theorem RnL.fn {m : Nat} {ok : Nat → Bool} {al : List (Nat × Nat)} {f : FuncId} {cs l : List SV} (h : RnL m ok al cs l) : RnOK m ok al (.fn f cs) (.fn f l) := fun w E E' σ σ' v hm hE hr => by
  cases hr with
  | fn hl hc =>
    exact .fn (by rw [← h.1]; exact hl) fun i s v hs hv => by
      have hi : i < cs.length := by rw [h.1]; exact (List.getElem?_eq_some_iff.1 hs).1
      exact h.2 i _ s (List.getElem?_eq_getElem hi) hs w E E' σ σ' v hm hE (hc i _ v (List.getElem?_eq_getElem hi) hv)
theorem RnL.mfn {m : Nat} {ok : Nat → Bool} {al : List (Nat × Nat)} {f : FuncId} {cs l : List SV} (h : RnL m ok al cs l) : RnOK m ok al (.mfn f cs) (.mfn f l) := fun w E E' σ σ' v hm hE hr => by
  cases hr with
  | mfn hl hc =>
    exact .mfn (by rw [← h.1]; exact hl) fun i s v hs hv => by
      have hi : i < cs.length := by rw [h.1]; exact (List.getElem?_eq_some_iff.1 hs).1
      exact h.2 i _ s (List.getElem?_eq_getElem hi) hs w E E' σ σ' v hm hE (hc i _ v (List.getElem?_eq_getElem hi) hv)
theorem RnOK.ifc {m : Nat} {ok : Nat → Bool} {al : List (Nat × Nat)} {T : TypeId} {x y : SV} (h : RnOK m ok al x y) : RnOK m ok al (.ifc T x) (.ifc T y) := fun w E E' σ σ' v hm hE hr => by
  cases hr with
  | ifc hr => exact .ifc (h w E E' σ σ' _ hm hE hr)
noncomputable def rnK (m : Nat) (ok : Nat → Bool) (al : List (Nat × Nat)) (n : Nat) : SV → (SV → Prop) → Prop :=
  Nat.rec (motive := fun _ => SV → (SV → Prop) → Prop) (fun s k => rn0K m ok al s k) (fun _ ih s k => match s with
    | .agg cs => rnsK ih cs fun l => k (.agg l)
    | .tup cs => rnsK ih cs fun l => k (.tup l)
    | .fn f cs => rnsK ih cs fun l => k (.fn f l)
    | .mfn f cs => rnsK ih cs fun l => k (.mfn f l)
    | .ifc T s => ih s fun s' => k (.ifc T s')
    | s => rn0K m ok al s k) n
theorem rnK_sound {m : Nat} {ok : Nat → Bool} {al : List (Nat × Nat)} : ∀ (n : Nat) {s : SV} {k : SV → Prop}, rnK m ok al n s k → ∃ s', k s' ∧ RnOK m ok al s s' := by
  intro n
  induction n with
  | zero => intro s k h; exact rn0K_sound h
  | succ n ih =>
    intro s k h
    cases s with
    | agg cs => obtain ⟨l, h, hl⟩ := rnsK_sound (fun h => ih h) cs (show rnsK (rnK m ok al n) cs _ from h); exact ⟨_, h, hl.agg⟩
    | tup cs => obtain ⟨l, h, hl⟩ := rnsK_sound (fun h => ih h) cs (show rnsK (rnK m ok al n) cs _ from h); exact ⟨_, h, hl.tup⟩
    | fn f cs => obtain ⟨l, h, hl⟩ := rnsK_sound (fun h => ih h) cs (show rnsK (rnK m ok al n) cs _ from h); exact ⟨_, h, hl.fn⟩
    | mfn f cs => obtain ⟨l, h, hl⟩ := rnsK_sound (fun h => ih h) cs (show rnsK (rnK m ok al n) cs _ from h); exact ⟨_, h, hl.mfn⟩
    | ifc T s => obtain ⟨s', h, hs⟩ := ih (show rnK m ok al n s _ from h); exact ⟨_, h, hs.ifc⟩
    | _ => exact rn0K_sound h

/-! ### blocks -/
def RnB (m : Nat) (ok : Nat → Bool) (al : List (Nat × Nat)) (b b' : Blk) : Prop := ∀ (w : World) (E E' : Nat → Prop) (σ σ' : Sg) (e : Ent), TieN m ok al σ σ' → (∀ g, E' g → E g) → BlkOK w E σ b e → BlkOK w E' σ' b' e
noncomputable def rnRowsK (m : Nat) (ok : Nat → Bool) (al : List (Nat × Nat)) (l : List (List SV)) : (List (List SV) → Prop) → Prop :=
  List.rec (motive := fun _ => (List (List SV) → Prop) → Prop) (fun k => k []) (fun e _ ih k => rnsK (rnK m ok al 2) e fun e' => ih fun r => k (e' :: r)) l
noncomputable def rnEntsK (m : Nat) (ok : Nat → Bool) (al : List (Nat × Nat)) (l : List ME) : (List ME → Prop) → Prop :=
  List.rec (motive := fun _ => (List ME → Prop) → Prop) (fun k => k []) (fun e _ ih k => rnK m ok al 2 e.1 fun a => rnK m ok al 2 e.2.1 fun b => ih fun r => k ((a, b, e.2.2) :: r)) l
noncomputable def rnBlkK (m : Nat) (ok : Nat → Bool) (al : List (Nat × Nat)) (b : Blk) (k : Blk → Prop) : Prop :=
  match b with
  | .fix t cs => rnsK (rnK m ok al 2) cs fun l => k (.fix t l)
  | .row t z es => k (.row t z es)
  | .prow t z es => rnRowsK m ok al es fun es' => k (.prow t z es')
  | .mapB es c => k (.mapB es c)
  | .pmap es c => rnEntsK m ok al es fun es' => k (.pmap es' c)
  | .mit mb s l st => (match mb with | none => k (.mit none s l st) | some b => rnNK m ok al b fun j => k (.mit (some j) s l st))
  | .sit s p => k (.sit s p)
  | .glob g t cs => k (.glob g t cs)
  | .tail t z es => rnRowsK m ok al es fun es' => k (.tail t z es')
  | .dead => k .dead
  | .fresh => k .fresh
theorem rnRowsK_sound {m : Nat} {ok : Nat → Bool} {al : List (Nat × Nat)} (l : List (List SV)) : ∀ {k : List (List SV) → Prop}, rnRowsK m ok al l k → ∃ l', k l' ∧ l.length = l'.length ∧ ∀ (i : Nat) (e e' : List SV), l[i]? = some e → l'[i]? = some e' → RnL m ok al e e' := by
  induction l with
  | nil => intro k h; exact ⟨[], h, rfl, by simp⟩
  | cons x l ih =>
    intro k h
    obtain ⟨y, h, hy⟩ := rnsK_sound (fun h => rnK_sound 2 h) x (show rnsK (rnK m ok al 2) x _ from h)
    obtain ⟨l', h, hl, hl'⟩ := ih h
    refine ⟨_, h, by simp [hl], fun i s s' hs hs' => ?_⟩
    cases i with
    | zero => simp at hs hs'; subst hs; subst hs'; exact hy
    | succ i => exact hl' i s s' (by simpa using hs) (by simpa using hs')
theorem rnEntsK_sound {m : Nat} {ok : Nat → Bool} {al : List (Nat × Nat)} (l : List ME) : ∀ {k : List ME → Prop}, rnEntsK m ok al l k → ∃ l', k l' ∧ l.length = l'.length ∧ ∀ (i : Nat) (e e' : ME), l[i]? = some e → l'[i]? = some e' → RnOK m ok al e.1 e'.1 ∧ RnOK m ok al e.2.1 e'.2.1 ∧ e.2.2 = e'.2.2 := by
  induction l with
  | nil => intro k h; exact ⟨[], h, rfl, by simp⟩
  | cons x l ih =>
    intro k h
    obtain ⟨y, h, hy⟩ := rnK_sound 2 (show rnK m ok al 2 x.1 (fun a => rnK m ok al 2 x.2.1 fun b => rnEntsK m ok al l fun r => k ((a, b, x.2.2) :: r)) from h)
    obtain ⟨z, h, hz⟩ := rnK_sound 2 h
    obtain ⟨l', h, hl, hl'⟩ := ih h
    refine ⟨_, h, by simp [hl], fun i s s' hs hs' => ?_⟩
    cases i with
    | zero => simp at hs hs'; subst hs; subst hs'; exact ⟨hy, hz, rfl⟩
    | succ i => exact hl' i s s' (by simpa using hs) (by simpa using hs')
theorem rnBlkK_sound {m : Nat} {ok : Nat → Bool} {al : List (Nat × Nat)} {b : Blk} {k : Blk → Prop} (h : rnBlkK m ok al b k) : ∃ b', k b' ∧ RnB m ok al b b' ∧ (b' = .fresh → b = .fresh) := by
  have nil : ∀ {w : World} {E : Nat → Prop} {σ : Sg} {v : Value} {s : SV}, Rep w E [] s v → ∀ {E' : Nat → Prop}, (∀ g, E' g → E g) → Rep w E' [] s v := fun h _ hE => h.le hE []
  cases b with
  | fix t cs =>
    obtain ⟨l, h, hl, hl'⟩ := rnsK_sound (fun h => rnK_sound 2 h) cs (show rnsK (rnK m ok al 2) cs _ from h)
    refine ⟨_, h, fun w E E' σ σ' e hm hE hb => ?_, by simp⟩
    cases e <;> simp only [BlkOK] at hb ⊢
    obtain ⟨vs, h1, h2, h3⟩ := hb
    refine ⟨vs, h1, by rw [← hl]; exact h2, fun i s v hs hv => ?_⟩
    have hi : i < cs.length := by rw [hl]; exact (List.getElem?_eq_some_iff.1 hs).1
    obtain ⟨a, b⟩ := h3 i _ v (List.getElem?_eq_getElem hi) hv
    exact ⟨hl' i _ s (List.getElem?_eq_getElem hi) hs w E E' σ σ' v hm hE a, b⟩
  | row t z es =>
    refine ⟨_, h, fun w E E' σ σ' e hm hE hb => ?_, by simp⟩
    cases e <;> simp only [BlkOK] at hb ⊢
    case row =>
      obtain ⟨h1, h2, h3, h4, vs, h5, h6, h7⟩ := hb
      exact ⟨h1, h2, h3, h4, vs, h5, h6, fun i e he => ⟨(h7 i e he).1, fun j s hs => by obtain ⟨v, a, b, c⟩ := (h7 i e he).2 j s hs; exact ⟨v, a, b.le hE [], c⟩⟩⟩
    case rownil => exact hb
  | prow t z es =>
    obtain ⟨l, h, hl, hl'⟩ := rnRowsK_sound es (show rnRowsK m ok al es _ from h)
    refine ⟨_, h, fun w E E' σ σ' e hm hE hb => ?_, by simp⟩
    cases e <;> simp only [BlkOK] at hb ⊢
    case row =>
      obtain ⟨h1, h2, h3, h4, vs, h5, h6, h7⟩ := hb
      refine ⟨h1, by rw [← hl]; exact h2, h3, h4, vs, h5, h6, fun i e he => ?_⟩
      have hi : i < es.length := by rw [hl]; exact (List.getElem?_eq_some_iff.1 he).1
      obtain ⟨b1, b2⟩ := hl' i _ e (List.getElem?_eq_getElem hi) he
      refine ⟨by rw [← b1]; exact (h7 i _ (List.getElem?_eq_getElem hi)).1, fun j s hs => ?_⟩
      have hj : j < es[i].length := by rw [b1]; exact (List.getElem?_eq_some_iff.1 hs).1
      obtain ⟨v, a, b, c⟩ := (h7 i _ (List.getElem?_eq_getElem hi)).2 j _ (List.getElem?_eq_getElem hj)
      exact ⟨v, a, b2 j _ s (List.getElem?_eq_getElem hj) hs w E E' σ σ' v hm hE b, c⟩
    case rownil => subst hb; exact List.eq_nil_of_length_eq_zero (by rw [← hl]; rfl)
  | mapB es c =>
    refine ⟨_, h, fun w E E' σ σ' e hm hE hb => ?_, by simp⟩
    cases e <;> simp only [BlkOK] at hb ⊢
    obtain ⟨ms, h1, h2, h3⟩ := hb
    exact ⟨ms, h1, h2, fun i e m he hm' => ⟨(h3 i e m he hm').1.le hE [], (h3 i e m he hm').2.1.le hE [], (h3 i e m he hm').2.2⟩⟩
  | pmap es c =>
    obtain ⟨l, h, hl, hl'⟩ := rnEntsK_sound es (show rnEntsK m ok al es _ from h)
    refine ⟨_, h, fun w E E' σ σ' e hm hE hb => ?_, by simp⟩
    cases e <;> simp only [BlkOK] at hb ⊢
    obtain ⟨ms, h1, h2, h3⟩ := hb
    refine ⟨ms, h1, by rw [← hl]; exact h2, fun i e mm he hm' => ?_⟩
    have hi : i < es.length := by rw [hl]; exact (List.getElem?_eq_some_iff.1 he).1
    obtain ⟨b1, b2, b3⟩ := hl' i _ e (List.getElem?_eq_getElem hi) he
    obtain ⟨a1, a2, a3⟩ := h3 i _ mm (List.getElem?_eq_getElem hi) hm'
    exact ⟨b1 w E E' σ σ' _ hm hE a1, b2 w E E' σ σ' _ hm hE a2, by rw [a3, b3]⟩
  | mit mb s l st =>
    cases mb with
    | none =>
      refine ⟨_, h, fun w E E' σ σ' e hm hE hb => ?_, by simp⟩
      cases e <;> simp only [BlkOK] at hb ⊢
      exact hb
    | some b =>
      obtain ⟨j, h, hj⟩ := rnNK_sound (show rnNK m ok al b _ from h)
      refine ⟨_, h, fun w E E' σ σ' e hm hE hb => ?_, by simp⟩
      cases e <;> simp only [BlkOK] at hb ⊢
      obtain ⟨r, h1, h2⟩ := hb
      refine ⟨r, h1, ?_⟩
      rcases h2 with ⟨g', a, b⟩ | h2
      · exact .inl ⟨g', hj _ _ _ hm a (by simp), b⟩
      · exact .inr (hj _ _ _ hm h2 (by simp))
  | sit s p =>
    refine ⟨_, h, fun w E E' σ σ' e hm hE hb => ?_, by simp⟩
    cases e <;> simp only [BlkOK] at hb ⊢
    exact hb
  | tail t z es =>
    obtain ⟨l, h, hl, hl'⟩ := rnRowsK_sound es (show rnRowsK m ok al es _ from h)
    refine ⟨_, h, fun w E E' σ σ' e hm hE hb => ?_, by simp⟩
    cases e <;> simp only [BlkOK] at hb ⊢
    case row =>
      obtain ⟨h1, h2, h3, h4, vs, h5, h6, h7⟩ := hb
      refine ⟨h1, by rw [← hl]; exact h2, h3, h4, vs, h5, h6, fun i e he => ?_⟩
      have hi : i < es.length := by rw [hl]; exact (List.getElem?_eq_some_iff.1 he).1
      obtain ⟨b1, b2⟩ := hl' i _ e (List.getElem?_eq_getElem hi) he
      refine ⟨by rw [← b1]; exact (h7 i _ (List.getElem?_eq_getElem hi)).1, fun j s hs => ?_⟩
      have hj : j < es[i].length := by rw [b1]; exact (List.getElem?_eq_some_iff.1 hs).1
      obtain ⟨v, a, b, c⟩ := (h7 i _ (List.getElem?_eq_getElem hi)).2 j _ (List.getElem?_eq_getElem hj)
      exact ⟨v, by rw [← hl]; exact a, b2 j _ s (List.getElem?_eq_getElem hj) hs w E E' σ σ' v hm hE b, c⟩
  | glob g0 t cs =>
    refine ⟨_, h, fun w E E' σ σ' e hm hE hb => ?_, by simp⟩
    cases e <;> simp only [BlkOK] at hb ⊢
    obtain ⟨h0, vs, h1, h2, h3⟩ := hb
    exact ⟨h0, vs, h1, h2, fun i s v hs hv => ⟨(h3 i s v hs hv).1.le hE [], (h3 i s v hs hv).2⟩⟩
  | dead =>
    refine ⟨_, h, fun w E E' σ σ' e hm hE hb => ?_, by simp⟩
    cases e <;> simp only [BlkOK] at hb ⊢
  | fresh =>
    refine ⟨_, h, fun w E E' σ σ' e hm hE hb => ?_, by simp⟩
    cases e <;> simp only [BlkOK] at hb ⊢

/-! ### what refers to old blocks alone -/
/-- If a value once stood for something among m blocks, it refers to them alone. -/
theorem Rep.bnd {m : Nat} {al : List (Nat × Nat)} {w0 : World} {E0 : Nat → Prop} {σ0 : Sg} {s : SV} {v0 : Value} (h0 : Rep w0 E0 σ0 s v0) : ∀ {w : World} {E E' : Nat → Prop} {σ σ' : Sg} {v : Value}, σ0.length = m ∨ σ0 = [] → TieN m (fun _ => true) al σ σ' → (∀ g, E' g → E g) →
    Rep w E σ s v → Rep w E' σ' s v := by
  have lt : ∀ {σ0 : Sg} {b : Nat} {e : Ent}, σ0[b]? = some e → σ0.length = m ∨ σ0 = [] → b < m := fun h hm => by
    rcases hm with hm | hm
    · rw [← hm]; exact (List.getElem?_eq_some_iff.1 h).1
    · subst hm; simp at h
  induction h0 with
  | any => intros; exact .any
  | undef => intro w E E' σ σ' v hm ht hE hr; cases hr; exact .undef
  | int => intro w E E' σ σ' v hm ht hE hr; cases hr; exact .int
  | tt => intro w E E' σ σ' v hm ht hE hr; cases hr; exact .tt
  | ff => intro w E E' σ σ' v hm ht hE hr; cases hr; exact .ff
  | bool => intro w E E' σ σ' v hm ht hE hr; cases hr; exact .bool
  | qb _ => intro w E E' σ σ' v hm ht hE hr; cases hr with | qb h => exact .qb h
  | str => intro w E E' σ σ' v hm ht hE hr; cases hr; exact .str
  | iv h1 h2 h3 => intro w E E' σ σ' v hm ht hE hr; cases hr; exact .iv h1 h2 h3
  | tl h _ _ => intro w E E' σ σ' v hm ht hE hr; cases hr with
    | tl h' hm' ho' => exact .tl (ht.old _ _ (lt h hm) rfl h' (by simp)) hm' ho'
    | tlD h' => exact .tlD (ht.old _ _ (lt h hm) rfl h' (by simp))
  | tlD h => intro w E E' σ σ' v hm ht hE hr; cases hr with
    | tl h' hm' ho' => exact .tl (ht.old _ _ (lt h hm) rfl h' (by simp)) hm' ho'
    | tlD h' => exact .tlD (ht.old _ _ (lt h hm) rfl h' (by simp))
  | tp h => intro w E E' σ σ' v hm ht hE hr; cases hr with
    | tp h' => exact .tp (ht.old _ _ (lt h hm) rfl h' (by simp))
    | tpD h' => exact .tpD (ht.old _ _ (lt h hm) rfl h' (by simp))
  | tpD h => intro w E E' σ σ' v hm ht hE hr; cases hr with
    | tp h' => exact .tp (ht.old _ _ (lt h hm) rfl h' (by simp))
    | tpD h' => exact .tpD (ht.old _ _ (lt h hm) rfl h' (by simp))
  | agg hl h1 h ih =>
    intro w E E' σ σ' v hm ht hE hr
    cases hr with
    | agg hl' h1' h' =>
      refine .agg hl' h1' fun i s v hs hv => ?_
      have hi : i < _ := (List.getElem?_eq_some_iff.1 hs).1
      rw [hl] at hi
      exact ih i s _ hs (Array.getElem?_eq_getElem hi) hm ht hE (h' i s v hs hv)
  | tup hl h ih =>
    intro w E E' σ σ' v hm ht hE hr
    cases hr with
    | tup hl' h' =>
      refine .tup hl' fun i s v hs hv => ?_
      have hi : i < _ := (List.getElem?_eq_some_iff.1 hs).1
      rw [hl] at hi
      exact ih i s _ hs (Array.getElem?_eq_getElem hi) hm ht hE (h' i s v hs hv)
  | nilp => intro w E E' σ σ' v hm ht hE hr; cases hr; exact .nilp
  | nils => intro w E E' σ σ' v hm ht hE hr; cases hr; exact .nils
  | ptr h => intro w E E' σ σ' v hm ht hE hr; cases hr with
    | ptr h' => exact .ptr (ht.old _ _ (lt h hm) rfl h' (by simp))
    | ptrD h' => exact .ptrD (ht.old _ _ (lt h hm) rfl h' (by simp))
  | ptrD h => intro w E E' σ σ' v hm ht hE hr; cases hr with
    | ptr h' => exact .ptr (ht.old _ _ (lt h hm) rfl h' (by simp))
    | ptrD h' => exact .ptrD (ht.old _ _ (lt h hm) rfl h' (by simp))
  | ep h => intro w E E' σ σ' v hm ht hE hr; cases hr with
    | ep h' => exact .ep (ht.old _ _ (lt h hm) rfl h' (by simp))
    | epD h' => exact .epD (ht.old _ _ (lt h hm) rfl h' (by simp))
  | epD h => intro w E E' σ σ' v hm ht hE hr; cases hr with
    | ep h' => exact .ep (ht.old _ _ (lt h hm) rfl h' (by simp))
    | epD h' => exact .epD (ht.old _ _ (lt h hm) rfl h' (by simp))
  | sl h => intro w E E' σ σ' v hm ht hE hr; cases hr with
    | sl h' => exact .sl (ht.old _ _ (lt h hm) rfl h' (by simp))
    | slN h' => exact .slN (ht.old _ _ (lt h hm) rfl h' (by simp))
    | slD h' => exact .slD (ht.old _ _ (lt h hm) rfl h' (by simp))
  | slN h => intro w E E' σ σ' v hm ht hE hr; cases hr with
    | sl h' => exact .sl (ht.old _ _ (lt h hm) rfl h' (by simp))
    | slN h' => exact .slN (ht.old _ _ (lt h hm) rfl h' (by simp))
    | slD h' => exact .slD (ht.old _ _ (lt h hm) rfl h' (by simp))
  | slD h => intro w E E' σ σ' v hm ht hE hr; cases hr with
    | sl h' => exact .sl (ht.old _ _ (lt h hm) rfl h' (by simp))
    | slN h' => exact .slN (ht.old _ _ (lt h hm) rfl h' (by simp))
    | slD h' => exact .slD (ht.old _ _ (lt h hm) rfl h' (by simp))
  | rs0 hc => intro w E E' σ σ' v hm ht hE hr; exact RnOK.of_free (m := m) (ok := fun _ => true) (al := al) (fun w E σ σ' v hr => by cases hr <;> constructor <;> assumption) w E E' σ σ' v ht hE hr
  | rs => intro w E E' σ σ' v hm ht hE hr; exact RnOK.of_free (m := m) (ok := fun _ => true) (al := al) (fun w E σ σ' v hr => by cases hr <;> constructor <;> assumption) w E E' σ σ' v ht hE hr
  | rp => intro w E E' σ σ' v hm ht hE hr; exact RnOK.of_free (m := m) (ok := fun _ => true) (al := al) (fun w E σ σ' v hr => by cases hr <;> constructor <;> assumption) w E E' σ σ' v ht hE hr
  | fn hl h ih =>
    intro w E E' σ σ' v hm ht hE hr
    cases hr with
    | fn hl' h' =>
      refine .fn hl' fun i s v hs hv => ?_
      have hi : i < _ := (List.getElem?_eq_some_iff.1 hs).1
      rw [hl] at hi
      exact ih i s _ hs (Array.getElem?_eq_getElem hi) hm ht hE (h' i s v hs hv)
  | mfn hl h ih =>
    intro w E E' σ σ' v hm ht hE hr
    cases hr with
    | mfn hl' h' =>
      refine .mfn hl' fun i s v hs hv => ?_
      have hi : i < _ := (List.getElem?_eq_some_iff.1 hs).1
      rw [hl] at hi
      exact ih i s _ hs (Array.getElem?_eq_getElem hi) hm ht hE (h' i s v hs hv)
  | ln => intro w E E' σ σ' v hm ht hE hr; cases hr; exact .ln
  | mp h => intro w E E' σ σ' v hm ht hE hr; cases hr with
    | mp h' => exact .mp (ht.old _ _ (lt h hm) rfl h' (by simp))
    | mpD h' => exact .mpD (ht.old _ _ (lt h hm) rfl h' (by simp))
  | mpD h => intro w E E' σ σ' v hm ht hE hr; cases hr with
    | mp h' => exact .mp (ht.old _ _ (lt h hm) rfl h' (by simp))
    | mpD h' => exact .mpD (ht.old _ _ (lt h hm) rfl h' (by simp))
  | nilm => intro w E E' σ σ' v hm ht hE hr; cases hr; exact .nilm
  | ifc h ih => intro w E E' σ σ' v hm ht hE hr; cases hr with | ifc h' => exact .ifc (ih hm ht hE h')
  | nili => intro w E E' σ σ' v hm ht hE hr; cases hr; exact .nili
  | ss h hl ho => intro w E E' σ σ' v hm ht hE hr; cases hr with
    | ss h' hl' ho' => exact .ss (ht.old _ _ (lt h hm) rfl h' (by simp)) hl' ho'
    | ssN h' => exact .ssN (ht.old _ _ (lt h hm) rfl h' (by simp))
    | ssD h' => exact .ssD (ht.old _ _ (lt h hm) rfl h' (by simp))
  | ssN h => intro w E E' σ σ' v hm ht hE hr; cases hr with
    | ss h' hl' ho' => exact .ss (ht.old _ _ (lt h hm) rfl h' (by simp)) hl' ho'
    | ssN h' => exact .ssN (ht.old _ _ (lt h hm) rfl h' (by simp))
    | ssD h' => exact .ssD (ht.old _ _ (lt h hm) rfl h' (by simp))
  | ssD h => intro w E E' σ σ' v hm ht hE hr; cases hr with
    | ss h' hl' ho' => exact .ss (ht.old _ _ (lt h hm) rfl h' (by simp)) hl' ho'
    | ssN h' => exact .ssN (ht.old _ _ (lt h hm) rfl h' (by simp))
    | ssD h' => exact .ssD (ht.old _ _ (lt h hm) rfl h' (by simp))
  | it h => intro w E E' σ σ' v hm ht hE hr; cases hr with
    | it h' => exact .it (ht.old _ _ (lt h hm) rfl h' (by simp))
    | itD h' => exact .itD (ht.old _ _ (lt h hm) rfl h' (by simp))
  | itD h => intro w E E' σ σ' v hm ht hE hr; cases hr with
    | it h' => exact .it (ht.old _ _ (lt h hm) rfl h' (by simp))
    | itD h' => exact .itD (ht.old _ _ (lt h hm) rfl h' (by simp))
  | z0 => intro w E E' σ σ' v hm ht hE hr; cases hr; exact .z0
theorem BlkOK.bnd {m : Nat} {al : List (Nat × Nat)} {w0 w : World} {E0 E E' : Nat → Prop} {σ0 σ σ' : Sg} {b : Blk} {e0 e : Ent} (h0 : BlkOK w0 E0 σ0 b e0) (hm : σ0.length = m) (ht : TieN m (fun _ => true) al σ σ') (hE : ∀ g, E' g → E g) (h : BlkOK w E σ b e) : BlkOK w E' σ' b e := by
  cases b with
  | fix t cs =>
    cases e <;> simp only [BlkOK] at h ⊢
    cases e0 <;> simp only [BlkOK] at h0
    obtain ⟨vs0, _, g2, g3⟩ := h0
    obtain ⟨vs, h1, h2, h3⟩ := h
    refine ⟨vs, h1, h2, fun i s v hs hv => ⟨?_, (h3 i s v hs hv).2⟩⟩
    have hi : i < vs0.size := by rw [← g2]; exact (List.getElem?_eq_some_iff.1 hs).1
    exact (g3 i s _ hs (Array.getElem?_eq_getElem hi)).1.bnd (.inl hm) ht hE (h3 i s v hs hv).1
  | prow t z es =>
    cases e <;> simp only [BlkOK] at h ⊢
    case rownil => exact h
    case row =>
      obtain ⟨h1, h2, h3, h4, vs, h5, h6, h7⟩ := h
      refine ⟨h1, h2, h3, h4, vs, h5, h6, fun i e he => ⟨(h7 i e he).1, fun j s hs => ?_⟩⟩
      obtain ⟨v, a, b, c⟩ := (h7 i e he).2 j s hs
      refine ⟨v, a, ?_, c⟩
      cases e0 <;> simp only [BlkOK] at h0
      case rownil => subst h0; simp at he
      case row =>
        obtain ⟨_, _, _, _, vs0, _, _, g7⟩ := h0
        obtain ⟨v0, _, b0, _⟩ := (g7 i e he).2 j s hs
        exact b0.bnd (.inl hm) ht hE b
  | pmap es c =>
    cases e <;> simp only [BlkOK] at h ⊢
    cases e0 <;> simp only [BlkOK] at h0
    obtain ⟨ms0, _, g2, g3⟩ := h0
    obtain ⟨ms, h1, h2, h3⟩ := h
    refine ⟨ms, h1, h2, fun i e mm he hmm => ?_⟩
    have hi : i < ms0.size := by rw [← g2]; exact (List.getElem?_eq_some_iff.1 he).1
    obtain ⟨a1, a2, a3⟩ := g3 i e _ he (Array.getElem?_eq_getElem hi)
    obtain ⟨b1, b2, b3⟩ := h3 i e mm he hmm
    exact ⟨a1.bnd (.inl hm) ht hE b1, a2.bnd (.inl hm) ht hE b2, b3⟩
  | mit mb s l st =>
    cases e <;> simp only [BlkOK] at h ⊢
    cases e0 <;> simp only [BlkOK] at h0
    obtain ⟨r, h1, h2⟩ := h
    obtain ⟨r0, _, g2⟩ := h0
    refine ⟨r, h1, ?_⟩
    cases mb with
    | none => exact h2
    | some b =>
      have hb : b < m := by
        rw [← hm]
        rcases g2 with ⟨_, a, _⟩ | a <;> exact (List.getElem?_eq_some_iff.1 a).1
      rcases h2 with ⟨g', a, c⟩ | a
      · exact .inl ⟨g', ht.old _ _ hb rfl a (by simp), c⟩
      · exact .inr (ht.old _ _ hb rfl a (by simp))
  | row t z es =>
    cases e <;> simp only [BlkOK] at h ⊢
    case rownil => exact h
    case row =>
      obtain ⟨h1, h2, h3, h4, vs, h5, h6, h7⟩ := h
      exact ⟨h1, h2, h3, h4, vs, h5, h6, fun i e he => ⟨(h7 i e he).1, fun j s hs => by obtain ⟨v, a, b, c⟩ := (h7 i e he).2 j s hs; exact ⟨v, a, b.le hE [], c⟩⟩⟩
  | mapB es c =>
    cases e <;> simp only [BlkOK] at h ⊢
    obtain ⟨ms, h1, h2, h3⟩ := h
    exact ⟨ms, h1, h2, fun i e m he hm' => ⟨(h3 i e m he hm').1.le hE [], (h3 i e m he hm').2.1.le hE [], (h3 i e m he hm').2.2⟩⟩
  | sit s p => cases e <;> simp only [BlkOK] at h ⊢; exact h
  | tail t z es =>
    cases e <;> simp only [BlkOK] at h ⊢
    case row =>
      obtain ⟨h1, h2, h3, h4, vs, h5, h6, h7⟩ := h
      refine ⟨h1, h2, h3, h4, vs, h5, h6, fun i e he => ⟨(h7 i e he).1, fun j s hs => ?_⟩⟩
      obtain ⟨v, a, b, c⟩ := (h7 i e he).2 j s hs
      refine ⟨v, a, ?_, c⟩
      cases e0 <;> simp only [BlkOK] at h0
      case row =>
        obtain ⟨_, _, _, _, vs0, _, _, g7⟩ := h0
        obtain ⟨v0, _, b0, _⟩ := (g7 i e he).2 j s hs
        exact b0.bnd (.inl hm) ht hE b
  | glob g0 t cs =>
    cases e <;> simp only [BlkOK] at h ⊢
    obtain ⟨h0', vs, h1, h2, h3⟩ := h
    exact ⟨h0', vs, h1, h2, fun i s v hs hv => ⟨(h3 i s v hs hv).1.le hE [], (h3 i s v hs hv).2⟩⟩
  | dead => cases e <;> simp only [BlkOK] at h ⊢
  | fresh => cases e <;> simp only [BlkOK] at h ⊢

/-! ### the blocks, placed -/
/-- What is kept of the entries, where. -/
def pickE (σ : Sg) (r : Option Nat) : Ent := match r with | some a => σ.getD a .dead | none => .fresh
theorem place_inv {w : World} {X : Nat → Prop} {σ : Sg} {h' : Hp} (hI : Inv w X σ h') {ρ : List (Option Nat)} {h'' : Hp} (hl : h''.length = ρ.length)
    (hin : ∀ (i a : Nat), ρ[i]? = some (some a) → a < h'.length)
    (hinj : ∀ (i j a : Nat), ρ[i]? = some (some a) → ρ[j]? = some (some a) → i = j)
    (hf : ∀ (i : Nat) (b' : Blk), ρ[i]? = some none → h''[i]? = some b' → b' = .fresh)
    (hb : (∀ g, Ex X (ρ.map (pickE σ)) g → Ex X σ g) → ∀ (i a : Nat) (b b' : Blk) (e : Ent), ρ[i]? = some (some a) → h''[i]? = some b' → h'[a]? = some b → σ[a]? = some e → BlkOK w (Ex X σ) σ b e → BlkOK w (Ex X (ρ.map (pickE σ))) (ρ.map (pickE σ)) b' e) :
    Inv w X (ρ.map (pickE σ)) h'' ∧ (∀ g, Ex X (ρ.map (pickE σ)) g → Ex X σ g) ∧ (∀ (i a : Nat) (e : Ent), ρ[i]? = some (some a) → σ[a]? = some e → (ρ.map (pickE σ))[i]? = some e) := by
  have hget : ∀ (i a : Nat) (e : Ent), ρ[i]? = some (some a) → σ[a]? = some e → (ρ.map (pickE σ))[i]? = some e := fun i a e h1 h2 => by
    rw [List.getElem?_map, h1]; simp [pickE, List.getD, h2]
  have hinv : ∀ (i : Nat) (e : Ent), (ρ.map (pickE σ))[i]? = some e → (ρ[i]? = some none ∧ e = .fresh) ∨ ∃ a, ρ[i]? = some (some a) ∧ σ[a]? = some e := fun i e he => by
    rw [List.getElem?_map] at he
    cases hr : ρ[i]? with
    | none => rw [hr] at he; simp at he
    | some r =>
      rw [hr] at he
      cases r with
      | none => simp [pickE] at he; exact .inl ⟨rfl, he.symm⟩
      | some a =>
        refine .inr ⟨a, rfl, ?_⟩
        have ha : a < σ.length := by rw [hI.len]; exact hin i a hr
        simp [pickE, List.getD, ha] at he
        rw [List.getElem?_eq_getElem ha, he]
  have hown : ∀ g, Owned (ρ.map (pickE σ)) g → Owned σ g := by
    rintro g ⟨i, e, he, hg⟩
    rcases hinv i e he with ⟨_, rfl⟩ | ⟨a, _, ha⟩
    · simp [Ent.blk] at hg
    · exact ⟨a, e, ha, hg⟩
  have hE : ∀ g, Ex X (ρ.map (pickE σ)) g → Ex X σ g := fun g h => h.elim .inl fun h => .inr (hown g h)
  refine ⟨⟨by simp [hl], fun i b' e hb' he => ?_, fun i e g he hg => ?_, fun i j e e' g hi hj hg hg' => ?_, fun g hx ho => hI.dis g hx (hown g ho), hI.xlt⟩, hE, hget⟩
  · rcases hinv i e he with ⟨hr, rfl⟩ | ⟨a, hr, ha⟩
    · rw [hf i b' hr hb']; trivial
    · have hal := hin i a hr
      exact hb hE i a _ b' e hr hb' (List.getElem?_eq_getElem hal) ha (hI.ok a _ e (List.getElem?_eq_getElem hal) ha)
  · rcases hinv i e he with ⟨_, rfl⟩ | ⟨a, _, ha⟩
    · simp [Ent.blk] at hg
    · exact hI.lt a e g ha hg
  · rcases hinv i e hi with ⟨_, rfl⟩ | ⟨a, hr, ha⟩
    · simp [Ent.blk] at hg
    · rcases hinv j e' hj with ⟨_, rfl⟩ | ⟨c, hr', hc⟩
      · simp [Ent.blk] at hg'
      · have := hI.inj a c e e' g ha hc hg hg'
        subst this
        exact hinj i j a hr hr'
end
end Go.Sx
