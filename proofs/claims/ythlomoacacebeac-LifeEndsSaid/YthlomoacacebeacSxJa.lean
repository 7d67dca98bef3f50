/- append: what it comes to for a row of one's own and any source. No statement of the seat is proved here. -/
import Derived.Test.YthlomoacacebeacSxJ
import Derived.Laws.IdiomStrings
namespace Go.Sx
section
variable {P : Program} {T : Tab}

/-- A slice that is nil or a row of one's own. -/
def Owns (w : World) (e : TypeId) (size : Nat) (v : Value) (n : Nat) (xs : List Value) : Prop :=
  xs.length = n * size ∧ ((v = .slice none 0 0 ∧ n = 0) ∨
    ∃ g cap cur, v = .slice (some ⟨g, 0, none⟩) n cap ∧ RowAt w g cur e ∧ n ≤ cap ∧ cap ≤ maxLen ∧ cur.size = cap * size ∧ cur.toList.take (n * size) = xs)
/-- What append leaves: nothing new; the row with more in it; a new row. -/
def Grew (w : World) (e : TypeId) (size : Nat) (v : Value) (n m : Nat) (all : List Value) (v' : Value) (w' : World) : Prop :=
  (v = .slice none 0 0 ∧ n + m = 0 ∧ v' = .slice none 0 0 ∧ w' = w) ∨
  (∃ g cap cur cur', v = .slice (some ⟨g, 0, none⟩) n cap ∧ RowAt w g cur e ∧ v' = .slice (some ⟨g, 0, none⟩) (n + m) cap ∧ w' = w.setRow g cur' ∧ cur'.size = cur.size ∧ n + m ≤ cap ∧ cap ≤ maxLen ∧ cur.size = cap * size ∧ cur'.toList.take ((n + m) * size) = all) ∨
  (∃ cap cur, v' = .slice (some ⟨w.heap.size, 0, none⟩) (n + m) cap ∧ w' = w.drew.alloc (.cells cur e) ∧ n + m ≤ cap ∧ cap ≤ maxLen ∧ cur.size = cap * size ∧ cur.toList.take ((n + m) * size) = all)

theorem app_nil0 (w : World) (t u ty e : TypeId) (du : TypeDesc) (i : TypeInfo) (ht : P.underlying t = some (.slice e)) (hu : P.underlying u = some du) (hdu : (∃ e', du = .slice e') ∨ du = .string)
    (hi : P.info? e = some i) (x : Value) (hlen : ∀ w' : World, (Builtin.lenOf x).run P w' = .ok 0 w') (hfst : (Builtin.firstCells i.size 0 x).run P w = .ok #[] w) :
    (Builtin.append_ #[t, u] ty #[.slice none 0 0, x]).run P w = .ok (.slice none 0 0) w := by
  rcases hdu with ⟨e', rfl⟩ | rfl <;> simp [Builtin.append_, run_underlying ht, run_underlying hu, sizeOf, typeInfo, hi, hlen, hfst]
theorem app_nil (w : World) (t u ty e : TypeId) (du : TypeDesc) (i : TypeInfo) (z : Value) (ht : P.underlying t = some (.slice e)) (hu : P.underlying u = some du) (hdu : (∃ e', du = .slice e') ∨ du = .string)
    (hi : P.info? e = some i) (hz : i.zero = some z) (x : Value) (m : Nat) (news : List Value) (hlen : ∀ w' : World, (Builtin.lenOf x).run P w' = .ok m w') (hfst : (Builtin.firstCells i.size m x).run P w.drew = .ok news.toArray w.drew)
    (hn : m ≠ 0) (h63' : ¬ (9223372036854775807 < (m : Int))) (h48' : ¬ (281474976710656 < Builtin.nextslicecap m 0 * i.bytes)) :
    (Builtin.append_ #[t, u] ty #[.slice none 0 0, x]).run P w = .ok (.slice (some ⟨w.heap.size, 0, none⟩) m (grownCap w m 0 e)) (w.drew.alloc (.cells (news.toArray ++ Builtin.zeroCells z.cells (grownCap w m 0 e - m)) e)) := by
  rcases hdu with ⟨e', rfl⟩ | rfl <;> simp [Builtin.append_, run_underlying ht, run_underlying hu, sizeOf, typeInfo, zeroValue, hi, hz, hlen, hn, h63', h48', Question.forced, run_firstCells_none, hfst, newRow, grownCap]
theorem app_room (w : World) (t u ty e : TypeId) (du : TypeDesc) (i : TypeInfo) (ht : P.underlying t = some (.slice e)) (hu : P.underlying u = some du) (hdu : (∃ e', du = .slice e') ∨ du = .string)
    (hi : P.info? e = some i) (x : Value) (m : Nat) (news : List Value) (hlen : ∀ w' : World, (Builtin.lenOf x).run P w' = .ok m w') (hfst : (Builtin.firstCells i.size m x).run P w = .ok news.toArray w)
    (g n cap : Nat) (w' : World) (hroom : n + m ≤ cap) (hst : (storeCells ⟨g, n * i.size, none⟩ news 0).run P w = .ok () w') :
    (Builtin.append_ #[t, u] ty #[.slice (some ⟨g, 0, none⟩) n cap, x]).run P w = .ok (.slice (some ⟨g, 0, none⟩) (n + m) cap) w' := by
  rcases hdu with ⟨e', rfl⟩ | rfl <;> simp [Builtin.append_, run_underlying ht, run_underlying hu, sizeOf, typeInfo, hi, hlen, hroom, hfst, Addr.add_lit, hst]
theorem app_grow (w : World) (t u ty e : TypeId) (du : TypeDesc) (i : TypeInfo) (z : Value) (ht : P.underlying t = some (.slice e)) (hu : P.underlying u = some du) (hdu : (∃ e', du = .slice e') ∨ du = .string)
    (hi : P.info? e = some i) (hz : i.zero = some z) (x : Value) (m : Nat) (news : List Value) (hlen : ∀ w' : World, (Builtin.lenOf x).run P w' = .ok m w') (hfst : (Builtin.firstCells i.size m x).run P w.drew = .ok news.toArray w.drew)
    (g n cap : Nat) (xs : List Value) (hn : ¬ (n + m ≤ cap)) (h63' : ¬ (9223372036854775807 < ((n : Int) + (m : Int)))) (h48' : ¬ (281474976710656 < Builtin.nextslicecap (n + m) cap * i.bytes))
    (hfo : (Builtin.firstCells i.size n (.slice (some ⟨g, 0, none⟩) n cap)).run P w.drew = .ok xs.toArray w.drew) :
    (Builtin.append_ #[t, u] ty #[.slice (some ⟨g, 0, none⟩) n cap, x]).run P w = .ok (.slice (some ⟨w.heap.size, 0, none⟩) (n + m) (grownCap w (n + m) cap e))
      (w.drew.alloc (.cells (xs.toArray ++ news.toArray ++ Builtin.zeroCells z.cells (grownCap w (n + m) cap e - (n + m))) e)) := by
  rcases hdu with ⟨e', rfl⟩ | rfl
  all_goals
    simp [Builtin.append_, run_underlying ht, run_underlying hu, sizeOf, typeInfo, zeroValue, hi, hz, hlen, hn, h63', h48', Question.forced, hfst, hfo, newRow, grownCap]
    try (congr 2; apply Array.ext'; simp [List.append_assoc])

theorem run_append_any (w : World) (t u ty e : TypeId) (du : TypeDesc) (i : TypeInfo) (z : Value) (size bytes : Nat) (ht : P.underlying t = some (.slice e)) (hu : P.underlying u = some du) (hdu : (∃ e', du = .slice e') ∨ du = .string)
    (hi : P.info? e = some i) (hz : i.zero = some z) (hsize : i.size = size) (hby : i.bytes = bytes) (hzs : z.cells.size = size)
    (v : Value) (n : Nat) (xs : List Value) (hown : Owns w e size v n xs)
    (x : Value) (m : Nat) (news : List Value) (hl : news.length = m * size) (hlen : ∀ w' : World, (Builtin.lenOf x).run P w' = .ok m w')
    (hfst : ∀ w' : World, w'.heap = w.heap → (Builtin.firstCells size m x).run P w' = .ok news.toArray w') (h1 : ∀ u ∈ news, u.oneCell' = true)
    (h63 : n + m ≤ maxLen) (hbytes : (n + m) * bytes ≤ 140737488355328) :
    ∃ v' w', (Builtin.append_ #[t, u] ty #[v, x]).run P w = .ok v' w' ∧ Grew w e size v n m (xs ++ news) v' w' := by
  subst hsize
  subst hby
  have hsmall : n + m ≤ 9223372036854775807 := by simp only [maxLen] at h63; omega
  have hlen' : (xs ++ news).length = (n + m) * i.size := by rw [List.length_append, hown.1, hl, Nat.add_mul]
  have grown : ∀ (old : Nat), old < n + m →
      n + m ≤ grownCap w (n + m) old e ∧ grownCap w (n + m) old e ≤ maxLen ∧
      (xs.toArray ++ news.toArray ++ Builtin.zeroCells z.cells (grownCap w (n + m) old e - (n + m))).size = grownCap w (n + m) old e * i.size ∧
      (xs.toArray ++ news.toArray ++ Builtin.zeroCells z.cells (grownCap w (n + m) old e - (n + m))).toList.take ((n + m) * i.size) = xs ++ news := by
    intro old ho
    have hge := grownCap_ge w (n + m) old e
    have hcm : grownCap w (n + m) old e ≤ maxLen := grownCap_le_maxLen w (n + m) old e h63
    refine ⟨hge, hcm, ?_, ?_⟩
    · simp only [Array.size_append, List.size_toArray, size_zeroCells, hzs, hown.1, hl, ← Nat.add_mul]
      congr 1
      omega
    · simp only [Array.toList_append, List.append_assoc]
      rw [← List.append_assoc, ← hlen']
      exact List.take_left
  have hd : w.drew.heap = w.heap := rfl
  rcases hown.2 with ⟨rfl, rfl⟩ | ⟨g, cap, cur, rfl, hg, hnc, hcm, hcs, htake⟩
  · have hx : xs = [] := List.eq_nil_of_length_eq_zero (by simpa using hown.1)
    subst hx
    by_cases hm : m = 0
    · subst hm
      have hn : news = [] := List.eq_nil_of_length_eq_zero (by simpa using hl)
      subst hn
      refine ⟨.slice none 0 0, w, ?_, .inl ⟨rfl, rfl, rfl, rfl⟩⟩
      exact app_nil0 w t u ty e du i ht hu hdu hi x hlen (by simpa using hfst w rfl)
    · have hgr := grown 0 (by omega)
      simp only [Nat.zero_add, List.nil_append, Array.empty_append] at hgr ⊢
      have hn : m ≠ 0 := hm
      have h63' : ¬ (9223372036854775807 < (m : Int)) := by omega
      have h48' : ¬ (281474976710656 < Builtin.nextslicecap m 0 * i.bytes) := by
        rw [nextslicecap_zero (by omega)]
        have hb := hbytes
        simp only [Nat.zero_add] at hb
        omega
      refine ⟨_, _, ?_, .inr (.inr ⟨_, _, by rw [Nat.zero_add], rfl, by simpa using hgr.1, hgr.2.1, hgr.2.2.1, by simpa using hgr.2.2.2⟩)⟩
      exact app_nil w t u ty e du i z ht hu hdu hi hz x m news hlen (hfst w.drew hd) hn h63' h48'
  · by_cases hroom : n + m ≤ cap
    · have hfit : n * i.size + news.length ≤ cur.size := by rw [hl, hcs, ← Nat.add_mul]; exact Nat.mul_le_mul_right _ hroom
      have hst := run_storeCells_fr (P := P) g (n * i.size) e news 0 cur w hg (by simpa using hfit) h1
      simp only [Nat.add_zero] at hst
      refine ⟨.slice (some ⟨g, 0, none⟩) (n + m) cap, w.setRow g (cur.toList.take (n * i.size) ++ news ++ cur.toList.drop (n * i.size + news.length)).toArray, ?_,
        .inr (.inl ⟨g, cap, cur, _, rfl, hg, rfl, rfl, ?_, hroom, hcm, hcs, ?_⟩)⟩
      · exact app_room w t u ty e du i ht hu hdu hi x m news hlen (hfst w rfl) g n cap _ hroom hst
      · simp only [List.size_toArray, List.length_append, List.length_take, List.length_drop, Array.length_toList]
        omega
      · rw [htake, ← hlen']
        exact List.take_left
    · have holds : ∀ j u, xs[j]? = some u → w.drew.cell? ((⟨g, 0, none⟩ : Addr).add j) = some u := by
        intro j u hj
        obtain ⟨fr, hg, _⟩ := hg
        rw [cell_at (w := w.drew) hg 0 j, Nat.zero_add]
        rw [← htake, List.getElem?_take] at hj
        split at hj
        · simpa using hj
        · simp at hj
      have hn : ¬ (n + m ≤ cap) := hroom
      have h63' : ¬ (9223372036854775807 < ((n : Int) + (m : Int))) := by omega
      have h48' : ¬ (281474976710656 < Builtin.nextslicecap (n + m) cap * i.bytes) := by
        have := growslice_fits (old := cap) (need := n + m) (by omega) hbytes
        omega
      have hfo := run_firstCells_some (P := P) w.drew i.size n ⟨g, 0, none⟩ n cap xs hown.1 holds
      have hgr := grown cap (by omega)
      refine ⟨_, _, ?_, .inr (.inr ⟨_, _, rfl, rfl, hgr.1, hgr.2.1, hgr.2.2.1, hgr.2.2.2⟩)⟩
      exact app_grow w t u ty e du i z ht hu hdu hi hz x m news hlen (hfst w.drew hd) g n cap xs hn h63' h48' hfo

/-- A row that was just laid. -/
theorem new_row_at {w w' : World} {X : Nat → Prop} {σ : Sg} {h2 : Hp} (hI : Inv w X σ h2) {nid : Nat} (hf : h2[nid]? = some .fresh) {t : TypeId} {sz cap : Nat} {es : List (List SV)} {vs : Array Value}
    (ho : w'.os = w.os) (ht : w'.tape = w.tape) (hout : w'.output = w.output) {o : Obj} (hw : w'.heap = w.heap.push o) (hat : RowAt w' w.heap.size vs t)
    (hcap : es.length ≤ cap) (hmax : cap ≤ maxLen) (hl : vs.size = cap * sz)
    (hc : ∀ (i : Nat) (e : List SV), es[i]? = some e → e.length = sz ∧ ∀ (j : Nat) (s : SV), e[j]? = some s → ∃ v, vs[i * sz + j]? = some v ∧ Rep w (Ex X σ) [] s v ∧ v.oneCell' = true) :
    ∃ σ', Rep w' (Ex X σ') σ' (.sl nid) (.slice (some ⟨w.heap.size, 0, none⟩) es.length cap) ∧ Inv w' X σ' (upd [(nid, .row t sz es)] h2) ∧ Step σ.length w σ w' σ' ∧ σ'.length = σ.length := by
  have hS := alloc_step (w' := w') hI hf (e := .row w.heap.size sz es.length cap) rfl ho ht hout hw
  have hσ := fresh_of hI hf
  have hlt : nid < σ.length := (List.getElem?_eq_some_iff.1 hσ).1
  refine ⟨σ.set nid (.row w.heap.size sz es.length cap), .sl (sz := sz) (by simp [hlt]), ?_, hS, by simp⟩
  rw [upd_one]
  refine alloc_inv (w' := w') hI hf (e := .row w.heap.size sz es.length cap) (b := .row t sz es) rfl ho ht hout hw ⟨rfl, rfl, hcap, hmax, vs, hat, hl, fun i e he => ⟨(hc i e he).1, fun j s hs => ?_⟩⟩
  obtain ⟨v, a, b, c⟩ := (hc i e he).2 j s hs
  exact ⟨v, a, b.step0 hS, c⟩

/-- What a source's cells are. -/
structure SrcOK (P : Program) (w : World) (E : Nat → Prop) (z : Nat) (es : List (List SV)) (x : Value) (news : List Value) : Prop where
  len : news.length = es.length * z
  lenOf : ∀ w' : World, (Builtin.lenOf x).run P w' = .ok es.length w'
  first : ∀ w' : World, w'.heap = w.heap → (Builtin.firstCells z es.length x).run P w' = .ok news.toArray w'
  one : ∀ u ∈ news, u.oneCell' = true
  row : ∀ (i : Nat) (e : List SV), es[i]? = some e → e.length = z ∧ ∀ (j : Nat) (s : SV), e[j]? = some s → ∃ v, news[i * z + j]? = some v ∧ Rep w E [] s v ∧ v.oneCell' = true

theorem flat_get {α : Type} (f : Nat → Nat → α) (n z i j : Nat) (hi : i < n) (hj : j < z) : ((List.range (n * z)).map fun k => f (k / z) (k % z))[i * z + j]? = some (f i j) := by
  have hlt : i * z + j < n * z := by
    have := Nat.mul_le_mul_right z (show i + 1 ≤ n from hi)
    rw [Nat.succ_mul] at this; omega
  rw [List.getElem?_map, List.getElem?_range hlt]
  have h1 : (i * z + j) / z = i := by rw [Nat.mul_comm, Nat.mul_add_div (by omega), Nat.div_eq_of_lt hj]; omega
  have h2 : (i * z + j) % z = j := by rw [Nat.mul_comm, Nat.mul_add_mod]; exact Nat.mod_eq_of_lt hj
  simp [h1, h2]
theorem flat_inv {n z k : Nat} (h : k < n * z) : k / z < n ∧ k % z < z ∧ k / z * z + k % z = k := by
  have hz : 0 < z := by
    rcases Nat.eq_zero_or_pos z with rfl | h'
    · simp at h
    · exact h'
  exact ⟨Nat.div_lt_of_lt_mul (by rw [Nat.mul_comm]; exact h), Nat.mod_lt _ hz, by rw [Nat.mul_comm]; exact Nat.div_add_mod k z⟩

theorem srcK_sound (hT : TabOK P T) {h : Hp} {u e : TypeId} {z : Nat} {x : SV} {k : List (List SV) → List Nat → Prop} (hk : srcK T h u e z x k) :
    ∃ es rd, k es rd ∧ (∃ du, P.underlying u = some du ∧ ((∃ e', du = .slice e') ∨ du = .string)) ∧ ∀ (w : World) (X : Nat → Prop) (σ : Sg) (h2 : Hp) (v : Value), Inv w X σ h2 → (∀ i ∈ rd, h2[i]? = h[i]?) → Rep w (Ex X σ) σ x v → ∃ news, SrcOK P w (Ex X σ) z es v news := by
  have hk := tyK_sound hT (show tyK T u _ from hk)
  generalize hti : (teOf P u).ti = ti at hk
  have none_ok : ∀ (w : World) (E : Nat → Prop) (a : Option Addr) (c : Nat), SrcOK P w E z [] (.slice a 0 c) [] := by
    intro w E a c
    refine ⟨by simp, fun w' => by simp [Builtin.lenOf], fun w' _ => ?_, by simp, by simp⟩
    cases a with
    | none => simp [Builtin.firstCells]
    | some a => exact run_firstCells_some w' z 0 a 0 c [] (by simp) (by simp)
  have of_cells : ∀ (w : World) (E : Nat → Prop) (es : List (List SV)) (ad : Addr) (c : Nat) (val : Nat → Nat → Value), (∀ (i : Nat) (e : List SV), es[i]? = some e → e.length = z) →
      (∀ (i : Nat) (e : List SV) (j : Nat) (s : SV), es[i]? = some e → e[j]? = some s → w.cell? (ad.add (i * z + j)) = some (val i j) ∧ (val i j).oneCell' = true ∧ Rep w E [] s (val i j)) →
      ∃ news, SrcOK P w E z es (.slice (some ad) es.length c) news := by
    intro w E es ad c val hl hc
    have hin : ∀ (k : Nat), k < es.length * z → ∃ e s, es[k / z]? = some e ∧ e[k % z]? = some s := by
      intro k hk
      obtain ⟨h1, h2, _⟩ := flat_inv hk
      have he := List.getElem?_eq_getElem h1
      exact ⟨_, _, he, List.getElem?_eq_getElem (by rw [hl _ _ he]; exact h2)⟩
    have hget : ∀ (k : Nat) (v : Value), ((List.range (es.length * z)).map fun k => val (k / z) (k % z))[k]? = some v → k < es.length * z ∧ v = val (k / z) (k % z) := by
      intro k v hv
      have hlt : k < es.length * z := by
        have := (List.getElem?_eq_some_iff.1 hv).1; simpa using this
      rw [List.getElem?_map, List.getElem?_range hlt] at hv
      exact ⟨hlt, by simpa using hv.symm⟩
    refine ⟨(List.range (es.length * z)).map fun k => val (k / z) (k % z), by simp, fun w' => by simp [Builtin.lenOf], fun w' hw => ?_, fun u hu => ?_, fun i e he => ⟨hl i e he, fun j s hs => ?_⟩⟩
    · refine run_firstCells_some w' z es.length ad es.length c _ (by simp) fun k v hv => ?_
      obtain ⟨hlt, rfl⟩ := hget k v hv
      obtain ⟨e, s, he, hs⟩ := hin k hlt
      have := (hc _ e _ s he hs).1
      rw [(flat_inv hlt).2.2] at this
      rw [← this]
      exact World.cell?_of_block (by rw [hw])
    · obtain ⟨k, hk⟩ := List.mem_iff_getElem?.1 hu
      obtain ⟨hlt, rfl⟩ := hget k u hk
      obtain ⟨e, s, he, hs⟩ := hin k hlt
      exact (hc _ e _ s he hs).2.1
    · obtain ⟨_, h2, h3⟩ := hc i e j s he hs
      have hj : j < z := by rw [← hl i e he]; exact (List.getElem?_eq_some_iff.1 hs).1
      exact ⟨val i j, flat_get val es.length z i j (List.getElem?_eq_some_iff.1 he).1 hj, h3, h2⟩
  cases ti with
  | slice q =>
    have hu : ∃ du, P.underlying u = some du ∧ ((∃ e', du = .slice e') ∨ du = .string) := ⟨_, und_slice (ti_of hti (by simp)).1, .inl ⟨_, rfl⟩⟩
    cases x with
    | nils =>
      refine ⟨_, _, hk, hu, fun w X σ h2 v _ _ hr => ?_⟩
      cases hr
      exact ⟨[], none_ok _ _ _ _⟩
    | rs q es =>
      obtain ⟨hq, hk2⟩ := eqNK_sound hk
      subst hq
      refine ⟨_, _, hk2, hu, fun w X σ h2 v _ _ hr => ?_⟩
      cases hr with
      | rs0 _ => exact ⟨[], none_ok _ _ _ _⟩
      | rs hc hm hE hlt hlen hcell hone hrep =>
        exact of_cells w _ es _ _ _ hlen fun i e j s he hs => ⟨hcell i e j s he hs, hone i e j s he hs, hrep i e j s he hs⟩
    | sl b =>
      obtain ⟨blk, hb, hk⟩ := nthK_sound (show nthK h b _ from hk)
      cases blk with
      | row t q es =>
        obtain ⟨hq, hk2⟩ := eqNK_sound hk
        subst hq
        refine ⟨_, _, hk2, hu, fun w X σ h2 v hI hrd hr => ?_⟩
        have hb' : h2[b]? = some (.row t q es) := (hrd b (by simp)).trans hb
        rcases row_of hI hb' with ⟨g, cap, vs, hσ, hcap, hmax, hg, hl, hrow⟩ | ⟨hσ, hes⟩
        · cases hr with
          | sl h' =>
            rw [hσ] at h'; simp at h'; obtain ⟨rfl, rfl, rfl, rfl⟩ := h'
            refine of_cells w _ es _ _ (fun i j => (vs[i * q + j]?).getD Go.undef) (fun i e he => (hrow i e he).1) fun i e j s he hs => ?_
            obtain ⟨v, h1, h2, h3⟩ := (hrow i e he).2 j s hs
            obtain ⟨fr, hg, _⟩ := hg
            rw [cell_at hg, Nat.zero_add, h1]
            exact ⟨rfl, h3, h2⟩
          | slN h' => rw [hσ] at h'; simp at h'
          | slD h' => rw [hσ] at h'; simp at h'
        · subst hes
          cases hr with
          | sl h' => rw [hσ] at h'; simp at h'
          | slN h' => exact ⟨[], none_ok _ _ _ _⟩
          | slD h' => rw [hσ] at h'; simp at h'
      | _ => exact hk.elim
    | _ => exact hk.elim
  | str =>
    have hu : ∃ du, P.underlying u = some du ∧ ((∃ e', du = .slice e') ∨ du = .string) := ⟨_, und_str (ti_of hti (by simp)).1, .inr rfl⟩
    cases x with
    | str s =>
      have hk := tyK_sound hT (show tyK T e _ from hk)
      split at hk
      · obtain ⟨hz, hk⟩ := eqNK_sound hk
        subst hz
        refine ⟨_, _, hk, hu, fun w X σ h2 v _ _ hr => ?_⟩
        cases hr
        refine ⟨s.map fun b => .int .u8 (b.toNat : Int), by simp, fun w' => by simp [Builtin.lenOf, ByteArray.size], fun w' _ => ?_, ?_, fun i e he => ?_⟩
        · simp only [Builtin.firstCells, Sem.run_pure, List.length_map]
          congr 1
          apply Array.ext'
          simp [ByteArray.extract, ByteArray.copySlice]
        · intro v hv
          obtain ⟨b, _, rfl⟩ := List.mem_map.1 hv
          rfl
        · rw [List.getElem?_map] at he
          cases hb : s[i]? with
          | none => rw [hb] at he; simp at he
          | some b =>
            rw [hb] at he
            simp [byteCell] at he
            subst he
            refine ⟨rfl, fun j a hj => ?_⟩
            have hj0 : j = 0 := by
              have := (List.getElem?_eq_some_iff.1 hj).1; simpa using this
            subst hj0
            simp at hj
            subst hj
            exact ⟨.int .u8 (b.toNat : Int), by simp [hb], .int, rfl⟩
      · exact hk.elim
    | _ => exact hk.elim
  | _ => cases x <;> exact hk.elim
end
end Go.Sx
