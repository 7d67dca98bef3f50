/- Contracts of package tags: rebased tags. No statement of the seat is proved here. -/
import Derived.Test.YthlomoacacebeacTags2
namespace Go.Proofs.Ythlomoacacebeac
open Go.Sx
set_option linter.unusedSimpArgs false
set_option linter.unusedVariables false
def subT (by' : Int) (t : Tg) : Tg := ⟨t.f, t.w, t.s - by'⟩
def rebB (ts : List Tg) (by' : Int) : Bool := tagsOk (-1) ts && decide (0 ≤ by')
def lowB (ts : List Tg) (by' : Int) : Bool := ts.any fun t => decide (t.s < by')
def rebL (ts : List Tg) (by' : Int) : List Tg := if rebB ts by' && !lowB ts by' then ts.map (subT by') else []
def rebE (ts : List Tg) (by' : Int) : Int := if rebB ts by' then (if lowB ts by' then 2 else 0) else 1
def getT (ts : List Tg) (i : Nat) : Tg := ts.getD i ⟨0, 0, 0⟩
theorem getT_get {ts : List Tg} {i : Nat} (h : i < ts.length) : ts[i]? = some (getT ts i) := by simp [getT, List.getD, h]
def rebAt (ts : List Tg) (by' : Int) (i : Nat) : List Tg := (ts.take i).map (subT by') ++ ts.drop i
theorem reb_len (ts : List Tg) (by' : Int) (i : Nat) (h : i ≤ ts.length) : (rebAt ts by' i).length = ts.length := by simp [rebAt]; omega
theorem reb_get {ts : List Tg} {by' : Int} {i : Nat} (h : i < ts.length) : ((rebAt ts by' i).map tagE)[((i : Int)).toNat]? = some [.int .i64 (getT ts i).f, .int .i64 (getT ts i).w, .int .i64 (getT ts i).s] := by
  rw [Int.toNat_natCast, List.getElem?_map, rebAt, List.getElem?_append_right (by simp; omega)]
  have : i - ((ts.take i).map (subT by')).length = 0 := by simp; omega
  rw [this, List.getElem?_drop, Nat.add_zero, getT_get h]
  rfl
theorem reb_set {ts : List Tg} {by' : Int} {i : Nat} (h : i < ts.length) {s : Int} (hs : s = (getT ts i).s - by') :
    ((rebAt ts by' i).map tagE).set ((i : Int)).toNat [.int .i64 (getT ts i).f, .int .i64 (getT ts i).w, .int .i64 s] = (rebAt ts by' (i + 1)).map tagE := by
  subst hs
  rw [Int.toNat_natCast, show [SV.int .i64 (getT ts i).f, .int .i64 (getT ts i).w, .int .i64 ((getT ts i).s - by')] = tagE (subT by' (getT ts i)) from rfl, ← List.map_set]
  congr 1
  have hd : ts.drop i = getT ts i :: ts.drop (i + 1) := by
    obtain ⟨h1, h2⟩ := List.getElem?_eq_some_iff.1 (getT_get h)
    rw [List.drop_eq_getElem_cons h1, h2]
  have ht : ts.take (i + 1) = ts.take i ++ [getT ts i] := by rw [List.take_add_one, getT_get h]; rfl
  rw [rebAt, rebAt, hd, ht, List.map_append, List.set_append_right _ _ (by simp; omega)]
  have : i - ((ts.take i).map (subT by')).length = 0 := by simp; omega
  rw [this]
  simp
theorem tagsOk_mem {ts : List Tg} : ∀ {last : Int}, tagsOk last ts = true → ∀ t ∈ ts, 0 ≤ t.s ∧ t.s ≤ 1099511627776 ∧ t.f < 32 := by
  induction ts with
  | nil => intro last _ t ht; simp at ht
  | cons x ts ih =>
    intro last h t ht
    simp only [tagsOk, tagOk, Bool.and_eq_true, decide_eq_true_eq] at h
    rcases List.mem_cons.1 ht with rfl | ht
    · exact ⟨h.1.1.2, h.1.2, h.1.1.1.1.2⟩
    · exact ih h.2 t ht
theorem getT_mem {ts : List Tg} {i : Nat} (h : i < ts.length) : getT ts i ∈ ts := List.mem_of_getElem? (getT_get h)
theorem low_false {ts : List Tg} {by' : Int} (h : ∀ k, k < ts.length → by' ≤ (getT ts k).s) : lowB ts by' = false := by
  rw [lowB, List.any_eq_false]
  intro t ht
  obtain ⟨k, hk⟩ := List.mem_iff_getElem?.1 ht
  have hlt := (List.getElem?_eq_some_iff.1 hk).1
  have := h k hlt
  rw [getT_get hlt] at hk
  simp at hk
  subst hk
  simp; omega
theorem low_true {ts : List Tg} {by' : Int} {k : Nat} (h : k < ts.length) (hb : (getT ts k).s < by') : lowB ts by' = true := by
  rw [lowB, List.any_eq_true]
  exact ⟨_, getT_mem h, by simpa using hb⟩
theorem rebase_r (ts : List Tg) (by' : Int) (hl : ts.length ≤ 1000000) (hb0 : -9223372036854775808 ≤ by') (hb1 : by' ≤ 9223372036854775807) :
    PSpec Try.prog 23 [.rs 3 (ts.map tagE), .int .i64 by'] (fun s => ∃ x, s = .tup [x, .int .i64 (rebE ts by')] ∧ RowIs 3 ((rebL ts by').map tagE) x) := by
  refine .of_codeF tab_ok Try.func23 (by rfl) rfl trivial ?_
  have bad : rebB ts by' = false → ∃ x, SV.tup [SV.nils, SV.int .i64 1] = .tup [x, .int .i64 (rebE ts by')] ∧ RowIs 3 ((rebL ts by').map tagE) x := fun h =>
    ⟨_, by simp [rebE, h], .inr ⟨rfl, by simp [rebL, h]⟩⟩
  conv => whnf
  refine (valid_s ts (by omega)).call ?_
  rintro _ rfl
  conv => whnf
  refine ⟨fun hv => ?_, fun hv => ?_⟩
  · conv => whnf
    exact bad (by have hv : tagsOk (-1) ts = false := by simpa using hv
                  simp [rebB, hv])
  · have hv : tagsOk (-1) ts = true := by simpa using hv
    conv => whnf
    refine ⟨fun hn => ?_, fun hn => ?_⟩
    · conv => whnf
      exact bad (by simp at hn; simp [rebB]; omega)
    · have hn : 0 ≤ by' := by simpa using hn
      have hB : rebB ts by' = true := by simp [rebB, hv, hn]
      conv => whnf
      refine CallG.of_code tab_ok Try.func65 (by rfl) rfl ?_
      conv => whnf
      refine ⟨fun hq => ?_, ?_⟩
      · have hts : ts = [] := by simpa using hq
        subst hts
        conv => whnf
        refine LoopG.inv tab_ok 40 (fun _ : Unit => [(6, .nils), (18, .int .i64 0), (19, .int .i64 0)]) (fun _ => []) (fun _ => 0) () (.of [] (by decide) ?_) ?_
        · conv => whnf
          refine ⟨by rfl, ?_⟩
          conv => whnf
          refine ⟨by rfl, ?_⟩
          conv => whnf
          exact trivial
        · intro _
          conv => whnf
          refine both_f rfl ?_
          conv => whnf
          refine .same ?_
          conv => whnf
          refine ⟨_, by simp [rebE, hB, lowB], .inr ⟨rfl, by simp [rebL]⟩⟩
      · conv => whnf
        refine ⟨by simp; omega, ?_⟩
        conv => whnf
        refine LoopG.inv tab_ok 40 (fun i : { i : Nat // i ≤ ts.length ∧ ∀ k, k < i → by' ≤ (getT ts k).s } => [(1, .int .i64 by'), (6, .sl 0), (18, .int .i64 (ts.length : Int)), (19, .int .i64 (i.1 : Int))])
          (fun i => [.row 38 3 ((rebAt ts by' i.1).map tagE)]) (fun i => ts.length - i.1) ⟨0, by omega, by omega⟩ (.of [some 1] (by decide) ?_) ?_
        · conv => whnf
          refine ⟨by rfl, ?_⟩
          conv => whnf
          refine ⟨by simp, ?_⟩
          conv => whnf
          refine ⟨by rfl, ?_⟩
          conv => whnf
          refine ⟨by rfl, ?_⟩
          conv => whnf
          exact trivial
        · intro i
          obtain ⟨hi, hs⟩ := i.2
          have hlen := reb_len ts by' i.1 hi
          conv => whnf
          refine ⟨fun hb => ?_, fun hb => ?_⟩
          · have hb : i.1 < ts.length := by simpa using hb
            have hm := tagsOk_mem hv _ (getT_mem hb)
            have hw : IntKind.i64.wrap ((getT ts i.1).s - by') = (getT ts i.1).s - by' := w64 _ (by omega) (by omega)
            conv => whnf
            refine ⟨by simp; omega, ?_⟩
            conv => whnf
            refine ⟨_, reb_get hb, ?_⟩
            conv => whnf
            refine ⟨fun hh1 => ?_, fun hh1 => ?_⟩
            · simp only [decide_eq_true_eq, decide_eq_false_iff_not] at hh1
              conv => whnf
              refine .same ?_
              conv => whnf
              refine ⟨_, by simp [rebE, hB, low_true hb (by omega)], .inr ⟨rfl, by simp [rebL, low_true hb (by omega)]⟩⟩
            · simp only [decide_eq_true_eq, decide_eq_false_iff_not] at hh1
              conv => whnf
              refine ⟨by simp; omega, ?_⟩
              conv => whnf
              refine ⟨_, reb_get hb, ?_⟩
              conv => whnf
              refine ⟨by simp; omega, ?_⟩
              conv => whnf
              refine ⟨_, reb_get hb, ?_⟩
              conv => whnf
              refine ⟨⟨i.1 + 1, by omega, fun k hk => by rcases Nat.lt_or_ge k i.1 with h | h; exact hs k h; (have e : k = i.1 := by omega); rw [e]; omega⟩, by show ts.length - (i.1 + 1) < ts.length - i.1; omega, .of [some 0] (by decide) ?_⟩
              conv => whnf
              refine ⟨by rfl, ?_⟩
              conv => whnf
              refine ⟨by rfl, ?_⟩
              conv => whnf
              refine ⟨by exact (w64 _ (by omega) (by omega)).trans (by simp), ?_⟩
              conv => whnf
              refine ⟨by exact reb_set hb hw, ?_⟩
              conv => whnf
              exact trivial
          · have hb : ¬ i.1 < ts.length := by simpa using hb
            have hlow : lowB ts by' = false := low_false fun k hk => hs k (by omega)
            have e : rebAt ts by' i.1 = rebL ts by' := by
              rw [rebL, hB, hlow, rebAt, show i.1 = ts.length by omega]
              simp
            conv => whnf
            refine .same ?_
            conv => whnf
            refine ⟨.rs 3 ((rebL ts by').map tagE), by rw [e, show rebE ts by' = 0 by simp [rebE, hB, hlow]], .inl rfl⟩
theorem rebase_s (ts : List Tg) (by' : Int) (hl : ts.length ≤ 1000000) (hb0 : -9223372036854775808 ≤ by') (hb1 : by' ≤ 9223372036854775807) :
    PSpec Try.prog 23 [.rs 3 (ts.map tagE), .int .i64 by'] (· = .tup [.rs 3 ((rebL ts by').map tagE), .int .i64 (rebE ts by')]) := (rebase_r ts by' hl hb0 hb1).row2
end Go.Proofs.Ythlomoacacebeac
