/- The statement TagsExact as a contract. -/
import Derived.Test.YthlomoacacebeacTagList
namespace Go.Proofs.Ythlomoacacebeac
open Go.Sx
set_option linter.unusedSimpArgs false
set_option linter.unusedVariables false
theorem awakeC_s : PSpec Try.prog 22 [] (· = .bool true) := by
  refine .of_code' tab_ok Try.func22 (by rfl) rfl trivial ?_
  conv => whnf
  refine (cost_s _ _).call ?_
  rintro _ rfl
  conv => whnf
  refine both_t rfl ?_
  conv => whnf
  rfl
theorem lst_min (ts : List Tg) : ∀ i j, j < i → startOf ts (lst ts i) ≤ startOf ts j := by
  intro i
  induction i with
  | zero => intro j hj; omega
  | succ i ih =>
    intro j hj
    simp only [lst]
    by_cases h : j = i
    · subst h
      split <;> omega
    · have := ih j (by omega)
      split <;> omega
theorem startOf_sub {ts : List Tg} {b : Int} {i : Nat} (h : i < ts.length) : startOf (ts.map (subT b)) i = startOf ts i - b := by
  simp [startOf, List.getElem?_eq_getElem h, subT]
theorem lst_sub (ts : List Tg) (b : Int) : ∀ i, i ≤ ts.length → lst (ts.map (subT b)) i = lst ts i := by
  intro i
  induction i with
  | zero => intro _; rfl
  | succ i ih =>
    intro h
    have hi := ih (by omega)
    have hl := lst_le ts i
    simp only [lst, hi]
    rw [startOf_sub (by omega), startOf_sub (by omega)]
    by_cases hc : startOf ts i < startOf ts (lst ts i)
    · rw [if_pos hc, if_pos (by omega)]
    · rw [if_neg hc, if_neg (by omega)]
theorem tagsOk_sub (b : Int) (hb : 0 ≤ b) : ∀ (ts : List Tg) (last : Int), tagsOk last ts = true → (∀ t ∈ ts, b ≤ t.s) → tagsOk last (ts.map (subT b)) = true
  | [], _, _, _ => rfl
  | t :: ts, last, h, hm => by
    simp only [tagsOk, List.map_cons, Bool.and_eq_true] at *
    refine ⟨?_, tagsOk_sub b hb ts _ h.2 fun u hu => hm u (List.mem_cons_of_mem _ hu)⟩
    have h1 := h.1
    have h2 := hm t (List.mem_cons_self ..)
    simp only [tagOk, Bool.and_eq_true, decide_eq_true_eq, subT] at *
    obtain ⟨⟨⟨⟨a1, a2⟩, a3⟩, a4⟩, a5⟩ := h1
    exact ⟨⟨⟨⟨decide_eq_true a1, decide_eq_true a2⟩, a3⟩, decide_eq_true (by omega)⟩, decide_eq_true (by omega)⟩
theorem startG {ts : List Tg} {i : Nat} (h : i < ts.length) : startOf ts i = (getT ts i).s := by simp [startOf, getT_get h]
theorem exact_all {ts : List Tg} (h0 : ts ≠ []) (hv : tagsOk (-1) ts = true) : lst ts ts.length < ts.length ∧ leastI ts = (lst ts ts.length : Int) ∧
    rebL ts (getT ts (lst ts ts.length)).s = ts.map (subT (getT ts (lst ts ts.length)).s) ∧ rebE ts (getT ts (lst ts ts.length)).s = 0 ∧
    leastI (ts.map (subT (getT ts (lst ts ts.length)).s)) = (lst ts ts.length : Int) ∧ 0 ≤ (getT ts (lst ts ts.length)).s ∧ (getT ts (lst ts ts.length)).s ≤ 1099511627776 ∧
    ∀ i, i < ts.length → (getT ts (lst ts ts.length)).s ≤ (getT ts i).s ∧ (getT ts i).s ≤ 1099511627776 := by
  have hlen : 0 < ts.length := List.length_pos_iff.2 h0
  have hle := lst_le ts ts.length
  have hk : lst ts ts.length < ts.length := by omega
  have hmem := tagsOk_mem hv _ (getT_mem hk)
  have hmin : ∀ i, i < ts.length → (getT ts (lst ts ts.length)).s ≤ (getT ts i).s := fun i hi => by
    have := lst_min ts ts.length i hi
    rwa [startG hk, startG hi] at this
  have hlow := low_false hmin
  have hreb : rebB ts (getT ts (lst ts ts.length)).s = true := by simp [rebB, hv, hmem.1]
  have hmin2 : ∀ t ∈ ts, (getT ts (lst ts ts.length)).s ≤ t.s := fun t ht => by
    obtain ⟨i, hi⟩ := List.getElem?_of_mem ht
    have hil := (List.getElem?_eq_some_iff.1 hi).1
    have := hmin i hil
    rw [getT_get hil] at hi
    simp at hi; rw [hi] at this; exact this
  refine ⟨hk, by simp [leastI, h0, hv], by simp [rebL, hreb, hlow], by simp [rebE, hreb, hlow], ?_, hmem.1, hmem.2.1, fun i hi => ⟨hmin i hi, (tagsOk_mem hv _ (getT_mem hi)).2.1⟩⟩
  rw [leastI, if_neg (by rw [tagsOk_sub _ hmem.1 ts _ hv hmin2]; simp [h0])]
  rw [List.length_map, lst_sub ts _ _ (Nat.le_refl _)]
theorem getT_sub {ts : List Tg} {b : Int} {i : Nat} (h : i < ts.length) : getT (ts.map (subT b)) i = subT b (getT ts i) := by
  simp [getT, List.getD, h]
theorem sg_get {ts : List Tg} {b : Int} {i : Nat} (h : i < ts.length) : ((ts.map (subT b)).map tagE)[((i : Int)).toNat]? = some [.int .i64 (getT ts i).f, .int .i64 (getT ts i).w, .int .i64 ((getT ts i).s - b)] := by
  rw [Int.toNat_natCast, List.getElem?_map, getT_get (by simpa using h), getT_sub h]; rfl
theorem tn_get {ts : List Tg} {i : Nat} (h : i < ts.length) : (ts.map tagE)[((i : Int)).toNat]? = some [.int .i64 (getT ts i).f, .int .i64 (getT ts i).w, .int .i64 (getT ts i).s] := by
  rw [Int.toNat_natCast, tgg_get h]
theorem tagsExact_s (ls : List Int) : PSpec Try.prog 3 [.rs 1 (nums ls)] TrueS := by
  refine .of_code' tab_ok Try.func3 (by rfl) rfl trivial ?_
  conv => whnf
  refine CallG.of_code tab_ok Try.func15 (by rfl) rfl ?_
  have w0 := nxt_lo ls 0 16
  have w1 := nxt_hi ls 0 16 (by omega)
  have hw : 1 ≤ 1 + nxt ls 0 16 ∧ 1 + nxt ls 0 16 ≤ 16 := by omega
  have ew : IntKind.i64.wrap (1 + nxt ls 0 16) = 1 + nxt ls 0 16 := w64 _ (by omega) (by omega)
  obtain ⟨_, hu1, hu2⟩ := unit_rng hw
  have hwt := (wty_iff _).2 hw
  conv => whnf
  refine (next_s ls 0 16 (by omega) (by omega) (by omega)).call [0] (by decide) (And.intro rfl trivial) (And.intro rfl trivial) ?_
  rintro _ _ ⟨rfl, rfl⟩
  conv => whnf
  refine LoopG.inv tab_ok 132 (fun x : { x : Nat × Int // x.1 ≤ 10 ∧ (x.1 : Int) ≤ x.2 ∧ x.2 ≤ 4096 * x.1 } => [(0, .rs 1 (nums ls)), (2, .ff), (3, .ptr 0 0), (4, .int .i64 (1 + nxt ls 0 16)), (5, .int .i64 (x.1.2 * unit (1 + nxt ls 0 16))), (6, .int .i64 x.1.2), (7, .int .i64 (x.1.1 : Int))])
    (fun x => [chs ls (1 + (x.1.1 : Int))]) (fun x => 10 - x.1.1) ⟨(0, 0), by decide⟩ (.of [some 0] (by rfl) ?_) ?_
  · conv => whnf
    refine ⟨by rfl, ?_⟩
    conv => whnf
    refine ⟨by omega, ?_⟩
    conv => whnf
    refine ⟨by simp, ?_⟩
    conv => whnf
    refine ⟨by rfl, ?_⟩
    conv => whnf
    refine ⟨by rfl, ?_⟩
    conv => whnf
    refine ⟨by rfl, ?_⟩
    conv => whnf
    refine ⟨by rfl, ?_⟩
    conv => whnf
    exact trivial
  · intro x
    obtain ⟨hx1, hx2, hx3⟩ := x.2
    have hs0 : 0 ≤ x.1.2 * unit (1 + nxt ls 0 16) := Int.mul_nonneg (by omega) (by omega)
    have hs1 : x.1.2 * unit (1 + nxt ls 0 16) ≤ 40960 * 720720 := Int.mul_le_mul (by omega) hu2 (by omega) (by omega)
    obtain ⟨hl0, hl1⟩ := lex_rng ls (1 + (x.1.1 : Int))
    conv => whnf
    refine ⟨fun hb => ?_, fun hb => ?_⟩
    · have hb : (x.1.1 : Int) < 10 := by simpa using hb
      have ec : cov (lex ls (1 + (x.1.1 : Int))) (1 + nxt ls 0 16) = lex ls (1 + (x.1.1 : Int)) * unit (1 + nxt ls 0 16) := by rw [cov, if_pos ⟨hl0, hl1, hwt⟩]
      have ee : coe (lex ls (1 + (x.1.1 : Int))) (1 + nxt ls 0 16) = 0 := by rw [coe, if_pos ⟨hl0, hl1, hwt⟩]
      have hc0 := cov_rng (lex ls (1 + (x.1.1 : Int))) (1 + nxt ls 0 16)
      have es : IntKind.i64.wrap (x.1.2 * unit (1 + nxt ls 0 16) + cov (lex ls (1 + (x.1.1 : Int))) (1 + nxt ls 0 16)) = (x.1.2 + lex ls (1 + (x.1.1 : Int))) * unit (1 + nxt ls 0 16) := by
        rw [w64 _ (by omega) (by omega), ec, Int.add_mul]
      have eb : IntKind.i64.wrap (x.1.2 + lex ls (1 + (x.1.1 : Int))) = x.1.2 + lex ls (1 + (x.1.1 : Int)) := w64 _ (by omega) (by omega)
      conv => whnf
      refine (length_s _ _ (by first | omega | assumption | decide | simp) (by first | omega | assumption | decide | simp)).call [0] (by decide) trivial (And.intro rfl trivial) ?_
      rintro _ _ ⟨rfl, rfl⟩
      conv => whnf
      refine (cost_s _ _).call ?_
      rintro _ rfl
      conv => whnf
      refine both_f (by simp; omega) ?_
      conv => whnf
      refine ⟨⟨(x.1.1 + 1, x.1.2 + lex ls (1 + (x.1.1 : Int))), by show x.1.1 + 1 ≤ 10; omega, by show ((x.1.1 + 1 : Nat) : Int) ≤ x.1.2 + lex ls (1 + (x.1.1 : Int)); omega, by show x.1.2 + lex ls (1 + (x.1.1 : Int)) ≤ 4096 * ((x.1.1 + 1 : Nat) : Int); omega⟩, by show 10 - (x.1.1 + 1) < 10 - x.1.1; omega, .of [some 0] (by rfl) ?_⟩
      conv => whnf
      refine ⟨by rfl, ?_⟩
      conv => whnf
      refine ⟨by rfl, ?_⟩
      conv => whnf
      refine ⟨by omega, ?_⟩
      conv => whnf
      refine ⟨by omega, ?_⟩
      conv => whnf
      refine ⟨by exact (w64 _ (by omega) (by omega)).trans (by simp), ?_⟩
      conv => whnf
      refine ⟨by rfl, ?_⟩
      conv => whnf
      refine ⟨by rfl, ?_⟩
      conv => whnf
      exact trivial
    · have en : nov x.1.2 (1 + nxt ls 0 16) = x.1.2 * unit (1 + nxt ls 0 16) := by rw [nov, if_pos ⟨by omega, by omega, hwt⟩]
      have ee : noe x.1.2 (1 + nxt ls 0 16) = 0 := by rw [noe, if_pos ⟨by omega, by omega, hwt⟩]
      have hnorm := normalized_s x.1.2 (1 + nxt ls 0 16)
      rw [en, ee] at hnorm
      conv => whnf
      refine .same ?_
      conv => whnf
      refine hnorm.call ?_
      rintro _ rfl
      conv => whnf
      refine both_f (by simp) ?_
      conv => whnf
      refine both_f (by simp) ?_
      conv => whnf
      refine (list_s ls (1 + (x.1.1 : Int)) (by omega) (by omega)).call [0] (by decide) trivial (And.intro rfl trivial) ?_
      rintro _ _ ⟨ts, a2, rfl, rfl, ht1, ht2, ht3, ht4⟩
      conv => whnf
      by_cases hv : ts ≠ [] ∧ tagsOk (-1) ts = true
      · obtain ⟨hk, hl, hL, hE, hl2, hk0, hk1, hmin⟩ := exact_all hv.1 hv.2
        have hk' : ((lst ts ts.length : Nat) : Int) < ((ts.map tagE).length : Int) := by simpa using hk
        have hleast := least_s ts (by omega)
        have hleast2 := least_s (ts.map (subT (getT ts (lst ts ts.length)).s)) (by simp; omega)
        have hreb := rebase_s ts (getT ts (lst ts ts.length)).s (by omega) (by omega) (by omega)
        rw [hl] at hleast
        rw [hl2] at hleast2
        rw [hL, hE] at hreb
        generalize hkk : lst ts ts.length = k at *
        generalize hss : (getT ts k).s = s at *
        refine hleast.call ?_
        rintro _ rfl
        conv => whnf
        refine both_f (by simp) ?_
        conv => whnf
        refine both_f (by simp; omega) ?_
        conv => whnf
        refine ⟨by simp; omega, ?_⟩
        conv => whnf
        refine ⟨_, tn_get hk, ?_⟩
        rw [hss]
        conv => whnf
        refine hreb.call ?_
        rintro _ rfl
        conv => whnf
        refine both_f (by simp) ?_
        conv => whnf
        refine hleast2.call ?_
        rintro _ rfl
        conv => whnf
        refine both_f (by simp) ?_
        conv => whnf
        refine both_f (by simp) ?_
        conv => whnf
        refine LoopG.inv tab_ok 132 (fun i : { i : Nat // i ≤ ts.length } => [(2, .ff), (13, .rs 3 (ts.map tagE)), (14, .int .i64 (k : Int)), (15, .rs 3 ((ts.map (subT s)).map tagE)), (17, .int .i64 (i.1 : Int))])
          (fun _ => [chs ls a2]) (fun i => ts.length - i.1) ⟨0, by omega⟩ (.of [some 0] (by rfl) ?_) ?_
        · conv => whnf
          refine ⟨by rfl, ?_⟩
          conv => whnf
          refine ⟨by rfl, ?_⟩
          conv => whnf
          refine ⟨by rfl, ?_⟩
          conv => whnf
          refine ⟨by rfl, ?_⟩
          conv => whnf
          refine ⟨by rfl, ?_⟩
          conv => whnf
          refine ⟨by rfl, ?_⟩
          conv => whnf
          exact trivial
        · intro i
          have hi := i.2
          conv => whnf
          refine ⟨fun hb => ?_, fun hb => ?_⟩
          · have hb : i.1 < ts.length := by simpa using hb
            have him := hmin i.1 hb
            have e1 : IntKind.i64.wrap ((getT ts i.1).s - s - (s - s)) = (getT ts i.1).s - s := by rw [w64 _ (by omega) (by omega)]; omega
            have e2 : IntKind.i64.wrap ((getT ts i.1).s - s) = (getT ts i.1).s - s := by rw [w64 _ (by omega) (by omega)]
            conv => whnf
            refine DrawG.of mixed tab_ok ?_
            conv => whnf
            refine ⟨by simp; omega, ?_⟩
            conv => whnf
            refine ⟨_, sg_get hb, ?_⟩
            conv => whnf
            refine ⟨by simp; omega, ?_⟩
            conv => whnf
            refine ⟨_, sg_get hk, ?_⟩
            conv => whnf
            refine ⟨by simp; omega, ?_⟩
            conv => whnf
            refine ⟨_, tn_get hb, ?_⟩
            conv => whnf
            refine ⟨by omega, ?_⟩
            conv => whnf
            refine ⟨_, tn_get hk, ?_⟩
            conv => whnf
            refine ⟨by kernel_rfl, ?_⟩
            conv => whnf
            refine both_f (by simp [*]) ?_
            conv => whnf
            refine ⟨⟨i.1 + 1, by omega⟩, by show ts.length - (i.1 + 1) < ts.length - i.1; omega, .of [some 0] (by rfl) ?_⟩
            conv => whnf
            refine ⟨by rfl, ?_⟩
            conv => whnf
            refine ⟨by rfl, ?_⟩
            conv => whnf
            refine ⟨by rfl, ?_⟩
            conv => whnf
            refine ⟨by exact (w64 _ (by omega) (by omega)).trans (by simp), ?_⟩
            conv => whnf
            refine ⟨by rfl, ?_⟩
            conv => whnf
            refine ⟨by rfl, ?_⟩
            conv => whnf
            exact trivial
          · conv => whnf
            refine .same ?_
            conv => whnf
            refine ⟨by simp; omega, ?_⟩
            conv => whnf
            refine ⟨_, sg_get hk, ?_⟩
            conv => whnf
            refine both_t (by simp; omega) ?_
            conv => whnf
            refine (awakeC_s).call ?_
            rintro _ rfl
            conv => whnf
      · have hl : leastI ts = -1 := by
          rw [leastI, if_pos]
          rcases Classical.em (ts = []) with h | h
          · exact .inl h
          · refine .inr ?_
            cases ht : tagsOk (-1) ts
            · rfl
            · exact absurd ⟨h, ht⟩ hv
        have hleast := least_s ts (by omega)
        rw [hl] at hleast
        refine hleast.call ?_
        rintro _ rfl
        conv => whnf
        refine both_t rfl ?_
        conv => whnf
        refine (awakeC_s).call ?_
        rintro _ rfl
        conv => whnf
end Go.Proofs.Ythlomoacacebeac
