/- Fill of package shares and of its reference; contract of SharesFill. No statement of the seat is proved here. -/
import Derived.Test.YthlomoacacebeabFillL
namespace Go.Proofs.Ythlomoacacebeab
open Go.Sx
set_option linter.unusedSimpArgs false
set_option linter.unusedVariables false
theorem row3 {P : Program} {f : FuncId} {args : List SV} {z : Nat} {es : List (List SV)} {e1 e2 : SV} (hs : PSpec P f args fun s => ∃ x, s = .tup [x, e1, e2] ∧ RowIs z es x) : PSpec P f args (· = .tup [.rs z es, e1, e2]) :=
  hs.weakR fun s ⟨x, hx, hr⟩ => ⟨_, rfl, fun w E σ v h => by
    subst hx
    cases h with
    | tup hl hc =>
      refine .tup hl fun i s v hs hv => ?_
      match i with
      | 0 => simp at hs; subst hs; exact hr.to w E σ v (hc 0 x v rfl hv)
      | 1 => exact hc 1 s v (by simpa using hs) hv
      | 2 => exact hc 2 s v (by simpa using hs) hv
      | i + 3 => simp at hs⟩
def idR (os : List Nat) : List (List SV) := os.map fun (i : Nat) => [SV.int .i64 (i : Int)]
theorem idR_len (os : List Nat) : (idR os).length = os.length := by simp [idR]
theorem idR_get {os : List Nat} {k : Nat} (h : k < os.length) : (idR os)[(k : Int).toNat]? = some [SV.int .i64 ((os.getD k 0 : Nat) : Int)] := by
  rw [Int.toNat_natCast]; simp [idR, List.getElem?_map, List.getElem?_eq_getElem h, List.getD]
theorem idR_app (os : List Nat) (i : Nat) : idR os ++ [[SV.int .i64 (i : Int)]] = idR (os ++ [i]) := by simp [idR]
theorem op_yes {l : List (Int × Int)} {xs cs : List Int} {i : Nat} (h : gx xs i < gx cs i) : (opP l xs cs i).map ptR ++ [[SV.int .i64 (gp l i).1, .int .i64 (gp l i).2]] = (opP l xs cs (i + 1)).map ptR ∧ idR (opn xs cs i) ++ [[SV.int .i64 (i : Int)]] = idR (opn xs cs (i + 1)) := by
  simp only [opP, opn, if_pos h]; rw [idR_app]; simp
theorem op_no {l : List (Int × Int)} {xs cs : List Int} {i : Nat} (h : ¬ gx xs i < gx cs i) : (opP l xs cs i).map ptR = (opP l xs cs (i + 1)).map ptR ∧ idR (opn xs cs i) = idR (opn xs cs (i + 1)) := by
  simp only [opP, opn, if_neg h]; exact ⟨trivial, trivial⟩
theorem spO_gx {a : Int} {l : List (Int × Int)} (h : ptO l) (h0 : l.length ≠ 0) (a0 : 0 ≤ a) (a1 : a ≤ 9223372036854775807) {k : Nat} (hk : k < l.length) : gx (spO a l) k = gv a l k ∧ (spO a l).length = l.length := by
  rw [(sp_yes a h h0).1]
  refine ⟨?_, by simp [tabL]⟩
  rw [← (gv_law h h0 a0 a1 k hk).2.2]
  simp [gx, tabL, List.getD, hk]
theorem rd_vals {l : List (Int × Int)} (h : ptO l) {cs : List Int} {tot : Int} {s : FSt} (hs : FOk l.length cs tot s) (ha : s.a ≤ 9223372036854775807) (h0 : opn s.xs cs l.length ≠ []) (hcs : cpsO cs) (hl : cs.length = l.length) {k : Nat} (hk : k < (opn s.xs cs l.length).length) :
    (let t := rdI cs (opn s.xs cs l.length) (gv s.a (opP l s.xs cs l.length)) s k
     let i := (opn s.xs cs l.length).getD k 0
     i < l.length ∧ t.xs.length = l.length ∧ t.a ≤ s.a ∧ 0 ≤ t.a ∧ IntKind.i64.wrap (gx cs i - gx t.xs i) = gx cs i - gx t.xs i ∧ gx (spO s.a (opP l s.xs cs l.length)) k = gv s.a (opP l s.xs cs l.length) k ∧ k < (spO s.a (opP l s.xs cs l.length)).length ∧
     IntKind.i64.wrap (gx t.xs i + tkN (gv s.a (opP l s.xs cs l.length) k) (gx cs i) (gx t.xs i)) = gx t.xs i + tkN (gv s.a (opP l s.xs cs l.length) k) (gx cs i) (gx t.xs i) ∧
     IntKind.i64.wrap (t.a - tkN (gv s.a (opP l s.xs cs l.length) k) (gx cs i) (gx t.xs i)) = t.a - tkN (gv s.a (opP l s.xs cs l.length) k) (gx cs i) (gx t.xs i)) := by
  have hO := opP_pt h s.xs cs
  have hne : (opP l s.xs cs l.length).length ≠ 0 := by
    rw [opP_len]; exact fun e => h0 (List.eq_nil_of_length_eq_zero e)
  have gk := gv_law hO hne hs.a0 ha k (by rw [opP_len]; omega)
  obtain ⟨i1, i2, i3⟩ := rd_ok h hs ha h0 k (by omega)
  have hi := (opn_mem l.length _).1 (gx_get (os := opn s.xs cs l.length) (k := k) hk)
  obtain ⟨e1, e2⟩ := spO_gx hO hne hs.a0 ha (k := k) (by rw [opP_len]; omega)
  have el := opP_len l s.xs cs l.length
  simp only
  rw [e1, e2]
  generalize rdI cs (opn s.xs cs l.length) (gv s.a (opP l s.xs cs l.length)) s k = t at *
  generalize (opn s.xs cs l.length).getD k 0 = i at *
  generalize gv s.a (opP l s.xs cs l.length) k = g at *
  have ri := i1.rng i hi.1
  have ci := hcs i (by omega)
  have tk : 0 ≤ tkN g (gx cs i) (gx t.xs i) ∧ tkN g (gx cs i) (gx t.xs i) ≤ g ∧ tkN g (gx cs i) (gx t.xs i) ≤ gx cs i - gx t.xs i := by
    unfold tkN; split <;> omega
  have ta := i1.a0
  exact ⟨hi.1, i1.len, i3, ta, w64 _ (by omega) (by omega), rfl, by omega, w64 _ (by omega) (by omega), w64 _ (by omega) (by omega)⟩
set_option maxHeartbeats 1000000 in
theorem fill_r (a : Int) (ha : a ≤ 9223372036854775807) (l : List (Int × Int)) (hlen : l.length ≤ 1000000) (cs : List Int) (hcl : cs.length ≤ 1000000) :
    PSpec Try.prog 25 [.int .i64 a, .rs 2 (l.map ptR), .rs 1 (nums cs)] fun s => ∃ x, s = .tup [x, .int .i64 (fvA a l cs), .int .i64 (fvE a l cs)] ∧ RowIs 1 (nums (fvX a l cs)) x := by
  refine .of_codeF tab_ok Try.func25 (by rfl) rfl trivial ?_
  have hl : (l.map ptR).length = l.length := by simp
  have hc := nums_len cs
  have bad : ¬ fiO a l cs → ∃ x, SV.tup [SV.nils, .int .i64 0, .int .i64 1] = .tup [x, .int .i64 (fvA a l cs), .int .i64 (fvE a l cs)] ∧ RowIs 1 (nums (fvX a l cs)) x := fun h => by
    obtain ⟨y1, y2, y3⟩ := fv_no h
    exact ⟨.nils, by rw [y2, y3], .inr ⟨rfl, by rw [y1]; rfl⟩⟩
  by_cases hP : ptO l ∧ cs.length = l.length ∧ 0 ≤ a
  · obtain ⟨hO, hcl2, a0⟩ := hP
    have hB := ptB_yes hO
    have h64 := hO.1
    conv => whnf
    refine (svalid_s _ (by first | omega | assumption | decide | simp)).call ?_
    rintro _ rfl
    conv => whnf
    refine both_f (by rw [hB]; rfl) ?_
    conv => whnf
    refine both_f (by rw [hc, hl, hcl2]; simp) ?_
    conv => whnf
    refine both_f (by exact decide_eq_false (by omega)) ?_
    conv => whnf
    refine LoopG.inv tab_ok 121 (fun i : { i : Nat // i ≤ cs.length ∧ ∀ j, j < i → 0 ≤ gx cs j ∧ gx cs j ≤ 2199023255552 } => [(0, .int .i64 a), (1, .rs 2 (l.map ptR)), (2, .rs 1 (nums cs)), (35, .rs 1 (nums cs)), (36, .int .i64 ((nums cs).length : Int)), (37, .int .i64 (i.1 : Int))])
      (fun _ => []) (fun i => cs.length - i.1) ⟨0, by omega, by intro j hj; omega⟩ (.of [] (by decide) ?_) ?_
    · conv => whnf
      refine ⟨by rfl, ?_⟩
      conv => whnf
      refine ⟨by rfl, ?_⟩
      conv => whnf
      refine ⟨by rfl, ?_⟩
      conv => whnf
      refine ⟨by rfl, ?_⟩
      conv => whnf
      refine ⟨by rfl, ?_⟩
      conv => whnf
      refine ⟨by rfl, ?_⟩
      conv => whnf
      exact trivial
    · intro i
      obtain ⟨hi, hg⟩ := i.2
      conv => whnf
      refine ⟨fun hb => ?_, fun hb => ?_⟩
      · have hb : i.1 < cs.length := by rw [hc] at hb; simpa using hb
        conv => whnf
        refine ⟨by omega, ?_⟩
        conv => whnf
        refine ⟨_, nget hb, ?_⟩
        conv => whnf
        refine ⟨fun hh1 => ?_, fun hh1 => ?_⟩
        · simp only [decide_eq_true_eq, decide_eq_false_iff_not] at hh1
          conv => whnf
          refine .same ?_
          conv => whnf
          refine (bad fun h => by have := h.2.2.2 i.1 hb; unfold gx at this; omega)
        · simp only [decide_eq_true_eq, decide_eq_false_iff_not] at hh1
          conv => whnf
          refine ⟨fun hh3 => ?_, fun hh3 => ?_⟩
          · simp only [decide_eq_true_eq, decide_eq_false_iff_not] at hh3
            conv => whnf
            refine .same ?_
            conv => whnf
            refine (bad fun h => by have := h.2.2.2 i.1 hb; unfold gx at this; omega)
          · simp only [decide_eq_true_eq, decide_eq_false_iff_not] at hh3
            conv => whnf
            refine ⟨⟨i.1 + 1, by omega, fun j hj => (by rcases Nat.lt_succ_iff_lt_or_eq.1 hj with h | h; exact hg j h; (subst h; unfold gx; omega))⟩, by show cs.length - (i.1 + 1) < cs.length - i.1; omega, .of [] (by decide) ?_⟩
            conv => whnf
            refine ⟨by rfl, ?_⟩
            conv => whnf
            refine ⟨by rfl, ?_⟩
            conv => whnf
            refine ⟨by rfl, ?_⟩
            conv => whnf
            refine ⟨by rfl, ?_⟩
            conv => whnf
            refine ⟨by rfl, ?_⟩
            conv => whnf
            refine ⟨by exact (w64 _ (by omega) (by omega)).trans (by simp), ?_⟩
            conv => whnf
            exact trivial
      · have hb : i.1 = cs.length := by rw [hc] at hb; simp at hb; omega
        have hcs : cpsO cs := fun j hj => hg j (by omega)
        have hF : fiO a l cs := ⟨hO, hcl2, a0, hcs⟩
        obtain ⟨y1, y2, y3⟩ := fv_yes hF
        conv => whnf
        refine .same ?_
        conv => whnf
        refine ⟨by simp; omega, ?_⟩
        conv => whnf
        refine LoopG.inv tab_ok 121 (fun s : { s : FSt // fiI a l cs s } => [(0, .int .i64 s.1.a), (1, .rs 2 (l.map ptR)), (2, .rs 1 (nums cs)), (11, .sl 0)])
          (fun s => [.row 2 1 (nums s.1.xs)]) (fun s => s.1.a.toNat) ⟨fi0 l a, fiI_0 hF⟩ (.of [some 0] (by rfl) ?_) ?_
        · conv => whnf
          refine ⟨by rfl, ?_⟩
          conv => whnf
          refine ⟨by rfl, ?_⟩
          conv => whnf
          refine ⟨by rfl, ?_⟩
          conv => whnf
          refine ⟨by (rw [hl, Int.toNat_natCast, nums_rep]; rfl), ?_⟩
          conv => whnf
          exact trivial
        · intro s
          have hI := s.2
          obtain ⟨hok, hsa, _⟩ := hI
          have xl := hok.len
          have xn := nums_len s.1.xs
          have fin : stopB l cs s.1 → ∃ x, SV.tup [SV.rs 1 (nums s.1.xs), .int .i64 s.1.a, .int .i64 0] = .tup [x, .int .i64 (fvA a l cs), .int .i64 (fvE a l cs)] ∧ RowIs 1 (nums (fvX a l cs)) x := fun h => by
            have e := fiI_end s.2 h
            exact ⟨SV.rs 1 (nums s.1.xs), by rw [y2, y3, ← e], .inl (by rw [y1, ← e])⟩
          conv => whnf
          refine ⟨fun hp => ?_, fun hp => ?_⟩
          · have hp : 0 < s.1.a := by simpa using hp
            conv => whnf
            refine LoopG.inv tab_ok 121 (fun i : { i : Nat // i ≤ l.length } => [(0, .int .i64 s.1.a), (1, .rs 2 (l.map ptR)), (2, .rs 1 (nums cs)), (11, .sl 0), (12, .sl 1), (13, .sl 2), (53, .rs 2 (l.map ptR)), (54, .int .i64 ((l.map ptR).length : Int)), (55, .int .i64 (i.1 : Int))])
              (fun i => [.row 2 1 (nums s.1.xs), .row 33 2 ((opP l s.1.xs cs i.1).map ptR), .row 3 1 (idR (opn s.1.xs cs i.1))]) (fun i => l.length - i.1) ⟨0, by omega⟩ (.of [some 0, none, none] (by rfl) ?_) ?_
            · conv => whnf
              refine ⟨by rfl, ?_⟩
              conv => whnf
              refine ⟨by rfl, ?_⟩
              conv => whnf
              refine ⟨by rfl, ?_⟩
              conv => whnf
              refine ⟨by rfl, ?_⟩
              conv => whnf
              refine ⟨by rfl, ?_⟩
              conv => whnf
              refine ⟨by rfl, ?_⟩
              conv => whnf
              refine ⟨by rfl, ?_⟩
              conv => whnf
              refine ⟨by rfl, ?_⟩
              conv => whnf
              refine ⟨by rfl, ?_⟩
              conv => whnf
              exact trivial
            · intro i
              have hi := i.2
              conv => whnf
              refine ⟨fun hb => ?_, fun hb => ?_⟩
              · have hb : i.1 < l.length := by rw [hl] at hb; simpa using hb
                have ol := opP_len l s.1.xs cs i.1
                have on := opn_len s.1.xs cs i.1
                have ir := idR_len (opn s.1.xs cs i.1)
                conv => whnf
                refine ⟨by omega, ?_⟩
                conv => whnf
                refine ⟨_, gp_get hb, ?_⟩
                conv => whnf
                refine DrawG.of mixed tab_ok ?_
                conv => whnf
                refine ⟨by omega, ?_⟩
                conv => whnf
                refine ⟨_, nget (xs := s.1.xs) (i := i.1) (by omega), ?_⟩
                conv => whnf
                refine ⟨by omega, ?_⟩
                conv => whnf
                refine ⟨_, nget (xs := cs) (i := i.1) (by omega), ?_⟩
                conv => whnf
                refine ⟨by kernel_rfl, ?_⟩
                conv => whnf
                refine ⟨fun hh3 => ?_, fun hh3 => ?_⟩
                · simp only [decide_eq_true_eq, decide_eq_false_iff_not] at hh3
                  conv => whnf
                  refine ⟨by simp; omega, ?_⟩
                  conv => whnf
                  refine ⟨by simp; omega, ?_⟩
                  conv => whnf
                  refine (have q : gx s.1.xs i.1 < gx cs i.1 := (by assumption); ⟨⟨i.1 + 1, by omega⟩, by show l.length - (i.1 + 1) < l.length - i.1; omega, .of [some 0, some 5, some 7] (by rfl) ?_⟩)
                  conv => whnf
                  refine ⟨by rfl, ?_⟩
                  conv => whnf
                  refine ⟨by rfl, ?_⟩
                  conv => whnf
                  refine ⟨by rfl, ?_⟩
                  conv => whnf
                  refine ⟨by rfl, ?_⟩
                  conv => whnf
                  refine ⟨by rfl, ?_⟩
                  conv => whnf
                  refine ⟨by exact (w64 _ (by omega) (by omega)).trans (by simp), ?_⟩
                  conv => whnf
                  refine ⟨by rfl, ?_⟩
                  conv => whnf
                  refine ⟨by exact (op_yes (by assumption)).1, ?_⟩
                  conv => whnf
                  refine ⟨by exact (op_yes (l := l) (by assumption)).2, ?_⟩
                  conv => whnf
                  exact trivial
                · simp only [decide_eq_true_eq, decide_eq_false_iff_not] at hh3
                  conv => whnf
                  refine (have q : ¬ gx s.1.xs i.1 < gx cs i.1 := (by assumption); ⟨⟨i.1 + 1, by omega⟩, by show l.length - (i.1 + 1) < l.length - i.1; omega, .of [some 0, some 1, some 2] (by rfl) ?_⟩)
                  conv => whnf
                  refine ⟨by rfl, ?_⟩
                  conv => whnf
                  refine ⟨by rfl, ?_⟩
                  conv => whnf
                  refine ⟨by rfl, ?_⟩
                  conv => whnf
                  refine ⟨by rfl, ?_⟩
                  conv => whnf
                  refine ⟨by rfl, ?_⟩
                  conv => whnf
                  refine ⟨by exact (w64 _ (by omega) (by omega)).trans (by simp), ?_⟩
                  conv => whnf
                  refine ⟨by rfl, ?_⟩
                  conv => whnf
                  refine ⟨by exact (op_no (by assumption)).1, ?_⟩
                  conv => whnf
                  refine ⟨by exact (op_no (l := l) (by assumption)).2, ?_⟩
                  conv => whnf
                  exact trivial
              · have hb : i.1 = l.length := by rw [hl] at hb; simp at hb; omega
                have ol := opP_len l s.1.xs cs l.length
                have ola : ((opP l s.1.xs cs l.length).map ptR).length = (opn s.1.xs cs l.length).length := by simp
                have ir := idR_len (opn s.1.xs cs l.length)
                rw [hb]
                conv => whnf
                refine .same ?_
                conv => whnf
                refine ⟨fun h0 => ?_, fun h0 => ?_⟩
                · have h0 : opn s.1.xs cs l.length = [] := by rw [ola] at h0; exact List.eq_nil_of_length_eq_zero (by simpa using h0)
                  conv => whnf
                  refine .same ?_
                  conv => whnf
                  refine (fin (.inr h0))
                · have h0 : opn s.1.xs cs l.length ≠ [] := fun e => by rw [ola, e] at h0; simp at h0
                  have hlen2 : (opP l s.1.xs cs l.length).length ≤ 1000000 := by have := opn_len s.1.xs cs l.length; omega
                  have sa : -9223372036854775808 ≤ s.1.a ∧ s.1.a ≤ 9223372036854775807 := by omega
                  obtain ⟨nx, nd⟩ := fiI_step hF ha s.2 hp h0
                  have rv := fun k => rd_vals hO hok sa.2 h0 hcs hcl2 (k := k)
                  conv => whnf
                  refine CallG.give 1 ?_
                  conv => whnf
                  refine (split_s s.1.a sa (opP l s.1.xs cs l.length) hlen2).call ?_
                  rintro _ rfl
                  conv => whnf
                  refine LoopG.inv tab_ok 121 (fun k : { k : Nat // k ≤ (opn s.1.xs cs l.length).length } => [(0, .int .i64 (rdI cs (opn s.1.xs cs l.length) (gv s.1.a (opP l s.1.xs cs l.length)) s.1 k.1).a), (1, .rs 2 (l.map ptR)), (2, .rs 1 (nums cs)), (11, .sl 0), (16, .rs 1 (nums (spO s.1.a (opP l s.1.xs cs l.length)))), (87, .sl 1), (88, .int .i64 ((idR (opn s.1.xs cs l.length)).length : Int)), (89, .int .i64 (k.1 : Int))])
                    (fun k => [.row 2 1 (nums (rdI cs (opn s.1.xs cs l.length) (gv s.1.a (opP l s.1.xs cs l.length)) s.1 k.1).xs), .row 3 1 (idR (opn s.1.xs cs l.length))]) (fun k => (opn s.1.xs cs l.length).length - k.1) ⟨0, by omega⟩ (.of [some 0, some 2] (by rfl) ?_) ?_
                  · conv => whnf
                    refine ⟨by rfl, ?_⟩
                    conv => whnf
                    refine ⟨by rfl, ?_⟩
                    conv => whnf
                    refine ⟨by rfl, ?_⟩
                    conv => whnf
                    refine ⟨by rfl, ?_⟩
                    conv => whnf
                    refine ⟨by rfl, ?_⟩
                    conv => whnf
                    refine ⟨by rfl, ?_⟩
                    conv => whnf
                    refine ⟨by rfl, ?_⟩
                    conv => whnf
                    refine ⟨by rfl, ?_⟩
                    conv => whnf
                    exact trivial
                  · intro k
                    have hk := k.2
                    conv => whnf
                    refine ⟨fun hb2 => ?_, fun hb2 => ?_⟩
                    · have hb2 : k.1 < (opn s.1.xs cs l.length).length := by rw [ir] at hb2; simpa using hb2
                      obtain ⟨v1, v2, v3, v4, v5, v6, v7, v8, v9⟩ := rv k.1 hb2
                      have gI := idR_get hb2
                      have on := opn_len s.1.xs cs l.length
                      have eX : (rdI cs (opn s.1.xs cs l.length) (gv s.1.a (opP l s.1.xs cs l.length)) s.1 (k.1 + 1)).xs = (rdI cs (opn s.1.xs cs l.length) (gv s.1.a (opP l s.1.xs cs l.length)) s.1 k.1).xs.set ((opn s.1.xs cs l.length).getD k.1 0) (gx (rdI cs (opn s.1.xs cs l.length) (gv s.1.a (opP l s.1.xs cs l.length)) s.1 k.1).xs ((opn s.1.xs cs l.length).getD k.1 0) + tkN (gv s.1.a (opP l s.1.xs cs l.length) k.1) (gx cs ((opn s.1.xs cs l.length).getD k.1 0)) (gx (rdI cs (opn s.1.xs cs l.length) (gv s.1.a (opP l s.1.xs cs l.length)) s.1 k.1).xs ((opn s.1.xs cs l.length).getD k.1 0))) := rfl
                      have eA : (rdI cs (opn s.1.xs cs l.length) (gv s.1.a (opP l s.1.xs cs l.length)) s.1 (k.1 + 1)).a = (rdI cs (opn s.1.xs cs l.length) (gv s.1.a (opP l s.1.xs cs l.length)) s.1 k.1).a - tkN (gv s.1.a (opP l s.1.xs cs l.length) k.1) (gx cs ((opn s.1.xs cs l.length).getD k.1 0)) (gx (rdI cs (opn s.1.xs cs l.length) (gv s.1.a (opP l s.1.xs cs l.length)) s.1 k.1).xs ((opn s.1.xs cs l.length).getD k.1 0)) := rfl
                      have et : (if IntKind.i64.wrap (gx cs ((opn s.1.xs cs l.length).getD k.1 0) - gx (rdI cs (opn s.1.xs cs l.length) (gv s.1.a (opP l s.1.xs cs l.length)) s.1 k.1).xs ((opn s.1.xs cs l.length).getD k.1 0)) < gx (spO s.1.a (opP l s.1.xs cs l.length)) k.1 then IntKind.i64.wrap (gx cs ((opn s.1.xs cs l.length).getD k.1 0) - gx (rdI cs (opn s.1.xs cs l.length) (gv s.1.a (opP l s.1.xs cs l.length)) s.1 k.1).xs ((opn s.1.xs cs l.length).getD k.1 0)) else gx (spO s.1.a (opP l s.1.xs cs l.length)) k.1) = tkN (gv s.1.a (opP l s.1.xs cs l.length) k.1) (gx cs ((opn s.1.xs cs l.length).getD k.1 0)) (gx (rdI cs (opn s.1.xs cs l.length) (gv s.1.a (opP l s.1.xs cs l.length)) s.1 k.1).xs ((opn s.1.xs cs l.length).getD k.1 0)) := by rw [v5, v6]; rfl
                      have tn := nums_len (rdI cs (opn s.1.xs cs l.length) (gv s.1.a (opP l s.1.xs cs l.length)) s.1 k.1).xs
                      have sn := nums_len (spO s.1.a (opP l s.1.xs cs l.length))
                      generalize hT : rdI cs (opn s.1.xs cs l.length) (gv s.1.a (opP l s.1.xs cs l.length)) s.1 k.1 = t at *
                      generalize hI : (opn s.1.xs cs l.length).getD k.1 0 = i2 at *
                      conv => whnf
                      refine ⟨by omega, ?_⟩
                      conv => whnf
                      refine ⟨_, gI, ?_⟩
                      conv => whnf
                      refine DrawG.of mixed tab_ok ?_
                      conv => whnf
                      refine ⟨by omega, ?_⟩
                      conv => whnf
                      refine ⟨_, nget (xs := spO s.1.a (opP l s.1.xs cs l.length)) (i := k.1) v7, ?_⟩
                      conv => whnf
                      refine ⟨by omega, ?_⟩
                      conv => whnf
                      refine ⟨_, nget (xs := cs) (i := i2) (by omega), ?_⟩
                      conv => whnf
                      refine ⟨by omega, ?_⟩
                      conv => whnf
                      refine ⟨_, nget (xs := t.xs) (i := i2) (by omega), ?_⟩
                      conv => whnf
                      refine ⟨by kernel_rfl, ?_⟩
                      conv => whnf
                      refine ⟨by omega, ?_⟩
                      conv => whnf
                      refine ⟨_, nget (xs := t.xs) (i := i2) (by omega), ?_⟩
                      conv => whnf
                      refine ⟨by omega, ?_⟩
                      conv => whnf
                      refine ⟨_, nget (xs := t.xs) (i := i2) (by omega), ?_⟩
                      conv => whnf
                      refine ⟨⟨k.1 + 1, by omega⟩, by show (opn s.1.xs cs l.length).length - (k.1 + 1) < (opn s.1.xs cs l.length).length - k.1; omega, .of [some 0, some 1] (by rfl) ?_⟩
                      conv => whnf
                      refine ⟨by (rw [et, v9, ← eA]), ?_⟩
                      conv => whnf
                      refine ⟨by rfl, ?_⟩
                      conv => whnf
                      refine ⟨by rfl, ?_⟩
                      conv => whnf
                      refine ⟨by rfl, ?_⟩
                      conv => whnf
                      refine ⟨by rfl, ?_⟩
                      conv => whnf
                      refine ⟨by exact (w64 _ (by omega) (by omega)).trans (by simp), ?_⟩
                      conv => whnf
                      refine ⟨by (rw [et, v8, Int.toNat_natCast, nums_set, ← eX]), ?_⟩
                      conv => whnf
                      refine ⟨by rfl, ?_⟩
                      conv => whnf
                      exact trivial
                    · have hb2 : k.1 = (opn s.1.xs cs l.length).length := by rw [ir] at hb2; simp at hb2; omega
                      rw [hb2]
                      conv => whnf
                      refine .same ?_
                      conv => whnf
                      refine ⟨⟨rdS l cs s.1, nx⟩, nd, .of [some 0] (by rfl) ?_⟩
                      conv => whnf
                      refine ⟨by rfl, ?_⟩
                      conv => whnf
                      refine ⟨by rfl, ?_⟩
                      conv => whnf
                      refine ⟨by rfl, ?_⟩
                      conv => whnf
                      refine ⟨by rfl, ?_⟩
                      conv => whnf
                      exact trivial
          · have hp : ¬ 0 < s.1.a := by simpa using hp
            conv => whnf
            refine .same ?_
            conv => whnf
            refine (fin (.inl (by omega)))
  · have h' : ptB l = true → cs.length = l.length → 0 ≤ a → False := fun p q r => hP ⟨by simpa [ptB] using p, q, r⟩
    have hF : ¬ fiO a l cs := fun h => hP ⟨h.1, h.2.1, h.2.2.1⟩
    conv => whnf
    refine (svalid_s _ (by first | omega | assumption | decide | simp)).call ?_
    rintro _ rfl
    conv => whnf
    refine ⟨fun hh10 => ?_, fun hh10 => ?_⟩
    · simp only [decide_eq_true_eq, decide_eq_false_iff_not, Bool.not_eq_true, Bool.not_eq_false, Bool.not_eq_true', Bool.not_eq_false', Bool.and_eq_true, Bool.and_eq_false_iff, Int.not_lt, Int.not_le, Decidable.not_not, beq_iff_eq, Bool.not_eq_eq_eq_not, Bool.not_true, Bool.not_false, beq_eq_false_iff_ne, ne_eq, decide_eq_decide] at hh10
      conv => whnf
      refine (bad hF)
    · simp only [decide_eq_true_eq, decide_eq_false_iff_not, Bool.not_eq_true, Bool.not_eq_false, Bool.not_eq_true', Bool.not_eq_false', Bool.and_eq_true, Bool.and_eq_false_iff, Int.not_lt, Int.not_le, Decidable.not_not, beq_iff_eq, Bool.not_eq_eq_eq_not, Bool.not_true, Bool.not_false, beq_eq_false_iff_ne, ne_eq, decide_eq_decide] at hh10
      conv => whnf
      refine ⟨fun hh12 => ?_, fun hh12 => ?_⟩
      · simp only [decide_eq_true_eq, decide_eq_false_iff_not] at hh12
        conv => whnf
        refine (bad hF)
      · simp only [decide_eq_true_eq, decide_eq_false_iff_not] at hh12
        conv => whnf
        refine ⟨fun hh14 => ?_, fun hh14 => ?_⟩
        · simp only [decide_eq_true_eq, decide_eq_false_iff_not] at hh14
          conv => whnf
          refine (bad hF)
        · simp only [decide_eq_true_eq, decide_eq_false_iff_not] at hh14
          conv => whnf
          exact (h' (by simp_all) (by omega) (by omega)).elim
set_option maxHeartbeats 1000000 in
theorem rfill_r (a : Int) (ha : a ≤ 9223372036854775807) (l : List (Int × Int)) (hlen : l.length ≤ 1000000) (cs : List Int) (hcl : cs.length ≤ 1000000) :
    PSpec Try.prog 48 [.int .i64 a, .rs 2 (l.map ptR), .rs 1 (nums cs)] fun s => ∃ x, s = .tup [x, .int .i64 (fvA a l cs), .int .i64 (fvE a l cs)] ∧ RowIs 1 (nums (fvX a l cs)) x := by
  refine .of_codeF tab_ok Try.func48 (by rfl) rfl trivial ?_
  have hl : (l.map ptR).length = l.length := by simp
  have hc := nums_len cs
  have bad : ¬ fiO a l cs → ∃ x, SV.tup [SV.nils, .int .i64 0, .int .i64 1] = .tup [x, .int .i64 (fvA a l cs), .int .i64 (fvE a l cs)] ∧ RowIs 1 (nums (fvX a l cs)) x := fun h => by
    obtain ⟨y1, y2, y3⟩ := fv_no h
    exact ⟨.nils, by rw [y2, y3], .inr ⟨rfl, by rw [y1]; rfl⟩⟩
  by_cases hP : ptO l ∧ cs.length = l.length ∧ 0 ≤ a
  · obtain ⟨hO, hcl2, a0⟩ := hP
    have hB := ptB_yes hO
    have h64 := hO.1
    conv => whnf
    refine (rvalidParts_s _ (by first | omega | assumption | decide | simp)).call ?_
    rintro _ rfl
    conv => whnf
    refine both_f (by rw [hB]; rfl) ?_
    conv => whnf
    refine both_f (by rw [hc, hl, hcl2]; simp) ?_
    conv => whnf
    refine both_f (by exact decide_eq_false (by omega)) ?_
    conv => whnf
    refine LoopG.inv tab_ok 133 (fun i : { i : Nat // i ≤ cs.length ∧ ∀ j, j < i → 0 ≤ gx cs j ∧ gx cs j ≤ 2199023255552 } => [(0, .int .i64 a), (1, .rs 2 (l.map ptR)), (2, .rs 1 (nums cs)), (9, .int .i64 (i.1 : Int))])
      (fun _ => []) (fun i => cs.length - i.1) ⟨0, by omega, by intro j hj; omega⟩ (.of [] (by decide) ?_) ?_
    · conv => whnf
      refine ⟨by rfl, ?_⟩
      conv => whnf
      refine ⟨by rfl, ?_⟩
      conv => whnf
      refine ⟨by rfl, ?_⟩
      conv => whnf
      refine ⟨by rfl, ?_⟩
      conv => whnf
      exact trivial
    · intro i
      obtain ⟨hi, hg⟩ := i.2
      conv => whnf
      refine ⟨fun hb => ?_, fun hb => ?_⟩
      · have hb : i.1 < cs.length := by rw [hc] at hb; simpa using hb
        conv => whnf
        refine ⟨by omega, ?_⟩
        conv => whnf
        refine ⟨_, nget hb, ?_⟩
        conv => whnf
        refine ⟨fun hh1 => ?_, fun hh1 => ?_⟩
        · simp only [decide_eq_true_eq, decide_eq_false_iff_not] at hh1
          conv => whnf
          refine .same ?_
          conv => whnf
          refine (bad fun h => by have := h.2.2.2 i.1 hb; unfold gx at this; omega)
        · simp only [decide_eq_true_eq, decide_eq_false_iff_not] at hh1
          conv => whnf
          refine ⟨by omega, ?_⟩
          conv => whnf
          refine ⟨_, nget hb, ?_⟩
          conv => whnf
          refine ⟨fun hh4 => ?_, fun hh4 => ?_⟩
          · simp only [decide_eq_true_eq, decide_eq_false_iff_not] at hh4
            conv => whnf
            refine .same ?_
            conv => whnf
            refine (bad fun h => by have := h.2.2.2 i.1 hb; unfold gx at this; omega)
          · simp only [decide_eq_true_eq, decide_eq_false_iff_not] at hh4
            conv => whnf
            refine ⟨⟨i.1 + 1, by omega, fun j hj => (by rcases Nat.lt_succ_iff_lt_or_eq.1 hj with h | h; exact hg j h; (subst h; unfold gx; omega))⟩, by show cs.length - (i.1 + 1) < cs.length - i.1; omega, .of [] (by decide) ?_⟩
            conv => whnf
            refine ⟨by rfl, ?_⟩
            conv => whnf
            refine ⟨by rfl, ?_⟩
            conv => whnf
            refine ⟨by rfl, ?_⟩
            conv => whnf
            refine ⟨by exact (w64 _ (by omega) (by omega)).trans (by simp), ?_⟩
            conv => whnf
            exact trivial
      · have hb : i.1 = cs.length := by rw [hc] at hb; simp at hb; omega
        have hcs : cpsO cs := fun j hj => hg j (by omega)
        have hF : fiO a l cs := ⟨hO, hcl2, a0, hcs⟩
        obtain ⟨y1, y2, y3⟩ := fv_yes hF
        conv => whnf
        refine .same ?_
        conv => whnf
        refine ⟨by simp; omega, ?_⟩
        conv => whnf
        refine LoopG.inv tab_ok 133 (fun s : { s : FSt // fiI a l cs s } => [(1, .rs 2 (l.map ptR)), (2, .rs 1 (nums cs)), (10, .sl 0), (11, .int .i64 s.1.a)])
          (fun s => [.row 2 1 (nums s.1.xs)]) (fun s => s.1.a.toNat) ⟨fi0 l a, fiI_0 hF⟩ (.of [some 0] (by rfl) ?_) ?_
        · conv => whnf
          refine ⟨by rfl, ?_⟩
          conv => whnf
          refine ⟨by rfl, ?_⟩
          conv => whnf
          refine ⟨by rfl, ?_⟩
          conv => whnf
          refine ⟨by (rw [hl, Int.toNat_natCast, nums_rep]; rfl), ?_⟩
          conv => whnf
          exact trivial
        · intro s
          have hI := s.2
          obtain ⟨hok, hsa, _⟩ := hI
          have xl := hok.len
          have xn := nums_len s.1.xs
          have fin : stopB l cs s.1 → ∃ x, SV.tup [SV.rs 1 (nums s.1.xs), .int .i64 s.1.a, .int .i64 0] = .tup [x, .int .i64 (fvA a l cs), .int .i64 (fvE a l cs)] ∧ RowIs 1 (nums (fvX a l cs)) x := fun h => by
            have e := fiI_end s.2 h
            exact ⟨SV.rs 1 (nums s.1.xs), by rw [y2, y3, ← e], .inl (by rw [y1, ← e])⟩
          conv => whnf
          refine ⟨fun hp => ?_, fun hp => ?_⟩
          · have hp : 0 < s.1.a := by simpa using hp
            conv => whnf
            refine LoopG.inv tab_ok 133 (fun i : { i : Nat // i ≤ l.length } => [(1, .rs 2 (l.map ptR)), (2, .rs 1 (nums cs)), (10, .sl 0), (11, .int .i64 s.1.a), (12, .sl 1), (13, .sl 2), (14, .int .i64 (i.1 : Int))])
              (fun i => [.row 2 1 (nums s.1.xs), .row 33 2 ((opP l s.1.xs cs i.1).map ptR), .row 3 1 (idR (opn s.1.xs cs i.1))]) (fun i => l.length - i.1) ⟨0, by omega⟩ (.of [some 0, none, none] (by rfl) ?_) ?_
            · conv => whnf
              refine ⟨by rfl, ?_⟩
              conv => whnf
              refine ⟨by rfl, ?_⟩
              conv => whnf
              refine ⟨by rfl, ?_⟩
              conv => whnf
              refine ⟨by rfl, ?_⟩
              conv => whnf
              refine ⟨by rfl, ?_⟩
              conv => whnf
              refine ⟨by rfl, ?_⟩
              conv => whnf
              refine ⟨by rfl, ?_⟩
              conv => whnf
              exact trivial
            · intro i
              have hi := i.2
              conv => whnf
              refine ⟨fun hb => ?_, fun hb => ?_⟩
              · have hb : i.1 < l.length := by rw [hl] at hb; simpa using hb
                have ol := opP_len l s.1.xs cs i.1
                have on := opn_len s.1.xs cs i.1
                have ir := idR_len (opn s.1.xs cs i.1)
                conv => whnf
                refine DrawG.of mixed tab_ok ?_
                conv => whnf
                refine ⟨by omega, ?_⟩
                conv => whnf
                refine ⟨_, nget (xs := s.1.xs) (i := i.1) (by omega), ?_⟩
                conv => whnf
                refine ⟨by omega, ?_⟩
                conv => whnf
                refine ⟨_, nget (xs := cs) (i := i.1) (by omega), ?_⟩
                conv => whnf
                refine ⟨by kernel_rfl, ?_⟩
                conv => whnf
                refine ⟨fun hh2 => ?_, fun hh2 => ?_⟩
                · simp only [decide_eq_true_eq, decide_eq_false_iff_not] at hh2
                  conv => whnf
                  refine ⟨by omega, ?_⟩
                  conv => whnf
                  refine ⟨_, gp_get hb, ?_⟩
                  conv => whnf
                  refine ⟨by simp; omega, ?_⟩
                  conv => whnf
                  refine ⟨by simp; omega, ?_⟩
                  conv => whnf
                  refine (have q : gx s.1.xs i.1 < gx cs i.1 := (by assumption); ⟨⟨i.1 + 1, by omega⟩, by show l.length - (i.1 + 1) < l.length - i.1; omega, .of [some 0, some 4, some 6] (by rfl) ?_⟩)
                  conv => whnf
                  refine ⟨by rfl, ?_⟩
                  conv => whnf
                  refine ⟨by rfl, ?_⟩
                  conv => whnf
                  refine ⟨by rfl, ?_⟩
                  conv => whnf
                  refine ⟨by exact (w64 _ (by omega) (by omega)).trans (by simp), ?_⟩
                  conv => whnf
                  refine ⟨by rfl, ?_⟩
                  conv => whnf
                  refine ⟨by exact (op_yes (by assumption)).1, ?_⟩
                  conv => whnf
                  refine ⟨by exact (op_yes (l := l) (by assumption)).2, ?_⟩
                  conv => whnf
                  exact trivial
                · simp only [decide_eq_true_eq, decide_eq_false_iff_not] at hh2
                  conv => whnf
                  refine (have q : ¬ gx s.1.xs i.1 < gx cs i.1 := (by assumption); ⟨⟨i.1 + 1, by omega⟩, by show l.length - (i.1 + 1) < l.length - i.1; omega, .of [some 0, some 1, some 2] (by rfl) ?_⟩)
                  conv => whnf
                  refine ⟨by rfl, ?_⟩
                  conv => whnf
                  refine ⟨by rfl, ?_⟩
                  conv => whnf
                  refine ⟨by rfl, ?_⟩
                  conv => whnf
                  refine ⟨by exact (w64 _ (by omega) (by omega)).trans (by simp), ?_⟩
                  conv => whnf
                  refine ⟨by rfl, ?_⟩
                  conv => whnf
                  refine ⟨by exact (op_no (by assumption)).1, ?_⟩
                  conv => whnf
                  refine ⟨by exact (op_no (l := l) (by assumption)).2, ?_⟩
                  conv => whnf
                  exact trivial
              · have hb : i.1 = l.length := by rw [hl] at hb; simp at hb; omega
                have ol := opP_len l s.1.xs cs l.length
                have ola : ((opP l s.1.xs cs l.length).map ptR).length = (opn s.1.xs cs l.length).length := by simp
                have ir := idR_len (opn s.1.xs cs l.length)
                rw [hb]
                conv => whnf
                refine .same ?_
                conv => whnf
                refine ⟨fun h0 => ?_, fun h0 => ?_⟩
                · have h0 : opn s.1.xs cs l.length = [] := by rw [ola] at h0; exact List.eq_nil_of_length_eq_zero (by simpa using h0)
                  conv => whnf
                  refine .same ?_
                  conv => whnf
                  refine (fin (.inr h0))
                · have h0 : opn s.1.xs cs l.length ≠ [] := fun e => by rw [ola, e] at h0; simp at h0
                  have hlen2 : (opP l s.1.xs cs l.length).length ≤ 1000000 := by have := opn_len s.1.xs cs l.length; omega
                  have sa : -9223372036854775808 ≤ s.1.a ∧ s.1.a ≤ 9223372036854775807 := by omega
                  obtain ⟨nx, nd⟩ := fiI_step hF ha s.2 hp h0
                  have rv := fun k => rd_vals hO hok sa.2 h0 hcs hcl2 (k := k)
                  conv => whnf
                  refine CallG.give 1 ?_
                  conv => whnf
                  refine (rsplit_s s.1.a sa (opP l s.1.xs cs l.length) hlen2).call ?_
                  rintro _ rfl
                  conv => whnf
                  refine LoopG.inv tab_ok 133 (fun k : { k : Nat // k ≤ (opn s.1.xs cs l.length).length } => [(1, .rs 2 (l.map ptR)), (2, .rs 1 (nums cs)), (10, .sl 0), (11, .int .i64 (rdI cs (opn s.1.xs cs l.length) (gv s.1.a (opP l s.1.xs cs l.length)) s.1 k.1).a), (13, .sl 1), (15, .rs 1 (nums (spO s.1.a (opP l s.1.xs cs l.length)))), (17, .int .i64 (k.1 : Int))])
                    (fun k => [.row 2 1 (nums (rdI cs (opn s.1.xs cs l.length) (gv s.1.a (opP l s.1.xs cs l.length)) s.1 k.1).xs), .row 3 1 (idR (opn s.1.xs cs l.length))]) (fun k => (opn s.1.xs cs l.length).length - k.1) ⟨0, by omega⟩ (.of [some 0, some 2] (by rfl) ?_) ?_
                  · conv => whnf
                    refine ⟨by rfl, ?_⟩
                    conv => whnf
                    refine ⟨by rfl, ?_⟩
                    conv => whnf
                    refine ⟨by rfl, ?_⟩
                    conv => whnf
                    refine ⟨by rfl, ?_⟩
                    conv => whnf
                    refine ⟨by rfl, ?_⟩
                    conv => whnf
                    refine ⟨by rfl, ?_⟩
                    conv => whnf
                    refine ⟨by rfl, ?_⟩
                    conv => whnf
                    exact trivial
                  · intro k
                    have hk := k.2
                    conv => whnf
                    refine ⟨fun hb2 => ?_, fun hb2 => ?_⟩
                    · have hb2 : k.1 < (opn s.1.xs cs l.length).length := by rw [ir] at hb2; simpa using hb2
                      obtain ⟨v1, v2, v3, v4, v5, v6, v7, v8, v9⟩ := rv k.1 hb2
                      have gI := idR_get hb2
                      have on := opn_len s.1.xs cs l.length
                      have eX : (rdI cs (opn s.1.xs cs l.length) (gv s.1.a (opP l s.1.xs cs l.length)) s.1 (k.1 + 1)).xs = (rdI cs (opn s.1.xs cs l.length) (gv s.1.a (opP l s.1.xs cs l.length)) s.1 k.1).xs.set ((opn s.1.xs cs l.length).getD k.1 0) (gx (rdI cs (opn s.1.xs cs l.length) (gv s.1.a (opP l s.1.xs cs l.length)) s.1 k.1).xs ((opn s.1.xs cs l.length).getD k.1 0) + tkN (gv s.1.a (opP l s.1.xs cs l.length) k.1) (gx cs ((opn s.1.xs cs l.length).getD k.1 0)) (gx (rdI cs (opn s.1.xs cs l.length) (gv s.1.a (opP l s.1.xs cs l.length)) s.1 k.1).xs ((opn s.1.xs cs l.length).getD k.1 0))) := rfl
                      have eA : (rdI cs (opn s.1.xs cs l.length) (gv s.1.a (opP l s.1.xs cs l.length)) s.1 (k.1 + 1)).a = (rdI cs (opn s.1.xs cs l.length) (gv s.1.a (opP l s.1.xs cs l.length)) s.1 k.1).a - tkN (gv s.1.a (opP l s.1.xs cs l.length) k.1) (gx cs ((opn s.1.xs cs l.length).getD k.1 0)) (gx (rdI cs (opn s.1.xs cs l.length) (gv s.1.a (opP l s.1.xs cs l.length)) s.1 k.1).xs ((opn s.1.xs cs l.length).getD k.1 0)) := rfl
                      have et : (if IntKind.i64.wrap (gx cs ((opn s.1.xs cs l.length).getD k.1 0) - gx (rdI cs (opn s.1.xs cs l.length) (gv s.1.a (opP l s.1.xs cs l.length)) s.1 k.1).xs ((opn s.1.xs cs l.length).getD k.1 0)) < gx (spO s.1.a (opP l s.1.xs cs l.length)) k.1 then IntKind.i64.wrap (gx cs ((opn s.1.xs cs l.length).getD k.1 0) - gx (rdI cs (opn s.1.xs cs l.length) (gv s.1.a (opP l s.1.xs cs l.length)) s.1 k.1).xs ((opn s.1.xs cs l.length).getD k.1 0)) else gx (spO s.1.a (opP l s.1.xs cs l.length)) k.1) = tkN (gv s.1.a (opP l s.1.xs cs l.length) k.1) (gx cs ((opn s.1.xs cs l.length).getD k.1 0)) (gx (rdI cs (opn s.1.xs cs l.length) (gv s.1.a (opP l s.1.xs cs l.length)) s.1 k.1).xs ((opn s.1.xs cs l.length).getD k.1 0)) := by rw [v5, v6]; rfl
                      have tn := nums_len (rdI cs (opn s.1.xs cs l.length) (gv s.1.a (opP l s.1.xs cs l.length)) s.1 k.1).xs
                      have sn := nums_len (spO s.1.a (opP l s.1.xs cs l.length))
                      generalize hT : rdI cs (opn s.1.xs cs l.length) (gv s.1.a (opP l s.1.xs cs l.length)) s.1 k.1 = t at *
                      generalize hI : (opn s.1.xs cs l.length).getD k.1 0 = i2 at *
                      conv => whnf
                      refine DrawG.of mixed tab_ok ?_
                      conv => whnf
                      refine ⟨by omega, ?_⟩
                      conv => whnf
                      refine ⟨_, nget (xs := spO s.1.a (opP l s.1.xs cs l.length)) (i := k.1) v7, ?_⟩
                      conv => whnf
                      refine ⟨by omega, ?_⟩
                      conv => whnf
                      refine ⟨_, gI, ?_⟩
                      conv => whnf
                      refine ⟨by omega, ?_⟩
                      conv => whnf
                      refine ⟨_, nget (xs := cs) (i := i2) (by omega), ?_⟩
                      conv => whnf
                      refine ⟨by omega, ?_⟩
                      conv => whnf
                      refine ⟨_, gI, ?_⟩
                      conv => whnf
                      refine ⟨by omega, ?_⟩
                      conv => whnf
                      refine ⟨_, nget (xs := t.xs) (i := i2) (by omega), ?_⟩
                      conv => whnf
                      refine ⟨by kernel_rfl, ?_⟩
                      conv => whnf
                      refine ⟨by omega, ?_⟩
                      conv => whnf
                      refine ⟨_, gI, ?_⟩
                      conv => whnf
                      refine ⟨by omega, ?_⟩
                      conv => whnf
                      refine ⟨_, nget (xs := t.xs) (i := i2) (by omega), ?_⟩
                      conv => whnf
                      refine ⟨by omega, ?_⟩
                      conv => whnf
                      refine ⟨_, nget (xs := t.xs) (i := i2) (by omega), ?_⟩
                      conv => whnf
                      refine ⟨⟨k.1 + 1, by omega⟩, by show (opn s.1.xs cs l.length).length - (k.1 + 1) < (opn s.1.xs cs l.length).length - k.1; omega, .of [some 0, some 1] (by rfl) ?_⟩
                      conv => whnf
                      refine ⟨by rfl, ?_⟩
                      conv => whnf
                      refine ⟨by rfl, ?_⟩
                      conv => whnf
                      refine ⟨by (rw [et, v9, ← eA]), ?_⟩
                      conv => whnf
                      refine ⟨by rfl, ?_⟩
                      conv => whnf
                      refine ⟨by exact (w64 _ (by omega) (by omega)).trans (by simp), ?_⟩
                      conv => whnf
                      refine ⟨by (rw [et, v8, Int.toNat_natCast, nums_set, ← eX]), ?_⟩
                      conv => whnf
                      refine ⟨by rfl, ?_⟩
                      conv => whnf
                      exact trivial
                    · have hb2 : k.1 = (opn s.1.xs cs l.length).length := by rw [ir] at hb2; simp at hb2; omega
                      rw [hb2]
                      conv => whnf
                      refine .same ?_
                      conv => whnf
                      refine ⟨⟨rdS l cs s.1, nx⟩, nd, .of [some 0] (by rfl) ?_⟩
                      conv => whnf
                      refine ⟨by rfl, ?_⟩
                      conv => whnf
                      refine ⟨by rfl, ?_⟩
                      conv => whnf
                      refine ⟨by rfl, ?_⟩
                      conv => whnf
                      refine ⟨by rfl, ?_⟩
                      conv => whnf
                      exact trivial
          · have hp : ¬ 0 < s.1.a := by simpa using hp
            conv => whnf
            refine .same ?_
            conv => whnf
            refine (fin (.inl (by omega)))
  · have h' : ptB l = true → cs.length = l.length → 0 ≤ a → False := fun p q r => hP ⟨by simpa [ptB] using p, q, r⟩
    have hF : ¬ fiO a l cs := fun h => hP ⟨h.1, h.2.1, h.2.2.1⟩
    conv => whnf
    refine (rvalidParts_s _ (by first | omega | assumption | decide | simp)).call ?_
    rintro _ rfl
    conv => whnf
    refine ⟨fun hh10 => ?_, fun hh10 => ?_⟩
    · simp only [decide_eq_true_eq, decide_eq_false_iff_not, Bool.not_eq_true, Bool.not_eq_false, Bool.not_eq_true', Bool.not_eq_false', Bool.and_eq_true, Bool.and_eq_false_iff, Int.not_lt, Int.not_le, Decidable.not_not, beq_iff_eq, Bool.not_eq_eq_eq_not, Bool.not_true, Bool.not_false, beq_eq_false_iff_ne, ne_eq, decide_eq_decide] at hh10
      conv => whnf
      refine (bad hF)
    · simp only [decide_eq_true_eq, decide_eq_false_iff_not, Bool.not_eq_true, Bool.not_eq_false, Bool.not_eq_true', Bool.not_eq_false', Bool.and_eq_true, Bool.and_eq_false_iff, Int.not_lt, Int.not_le, Decidable.not_not, beq_iff_eq, Bool.not_eq_eq_eq_not, Bool.not_true, Bool.not_false, beq_eq_false_iff_ne, ne_eq, decide_eq_decide] at hh10
      conv => whnf
      refine ⟨fun hh12 => ?_, fun hh12 => ?_⟩
      · simp only [decide_eq_true_eq, decide_eq_false_iff_not] at hh12
        conv => whnf
        refine (bad hF)
      · simp only [decide_eq_true_eq, decide_eq_false_iff_not] at hh12
        conv => whnf
        refine ⟨fun hh14 => ?_, fun hh14 => ?_⟩
        · simp only [decide_eq_true_eq, decide_eq_false_iff_not] at hh14
          conv => whnf
          refine (bad hF)
        · simp only [decide_eq_true_eq, decide_eq_false_iff_not] at hh14
          conv => whnf
          exact (h' (by simp_all) (by omega) (by omega)).elim
theorem fvX_len (a : Int) (l : List (Int × Int)) (cs : List Int) (ha : a ≤ 9223372036854775807) : (fvX a l cs).length ≤ l.length := by
  by_cases h : fiO a l cs
  · rw [(fv_yes h).1]
    have key : ∀ n (s : FSt), s.xs.length = l.length → (fiF l cs n s).xs.length = l.length := by
      intro n
      induction n with
      | zero => intro s hs; exact hs
      | succ n ih =>
        intro s hs
        by_cases hst : stopB l cs s
        · rw [fi_stop hst]; exact hs
        · rw [fi_go hst]
          refine ih _ ?_
          have k2 : ∀ k, (rdI cs (opn s.xs cs l.length) (gv s.a (opP l s.xs cs l.length)) s k).xs.length = l.length := by
            intro k
            induction k with
            | zero => exact hs
            | succ k ihk => simp [rdI, ihk]
          exact k2 _
    exact Nat.le_of_eq (key _ _ (by simp [fi0]))
  · rw [(fv_no h).1]; simp
theorem fills_s (a : Int) (ha : a ≤ 9223372036854775807) (l : List (Int × Int)) (hlen : l.length ≤ 1000000) (cs : List Int) (hcl : cs.length ≤ 1000000) :
    PSpec Try.prog 22 [.int .i64 a, .rs 2 (l.map ptR), .rs 1 (nums cs)] (· = .bool true) := by
  refine .of_code' tab_ok Try.func22 (by rfl) rfl trivial ?_
  have hs : (fvX a l cs).length ≤ 1000000 := by have := fvX_len a l cs ha; omega
  have s1 := row3 (fill_r a ha l hlen cs hcl)
  have s2 := row3 (rfill_r a ha l hlen cs hcl)
  conv => whnf
  refine s1.call ?_
  rintro _ rfl
  conv => whnf
  refine s2.call ?_
  rintro _ rfl
  conv => whnf
  refine both_t (by simp) ?_
  conv => whnf
  refine both_t (by simp) ?_
  conv => whnf
  refine (eq64_s _ (by first | omega | assumption | decide | simp)).call ?_
  rintro _ rfl
  conv => whnf
set_option maxHeartbeats 1000000 in
theorem sharesFill_s (ls : List Int) (a : Int) (raw : List (Int × Int)) (cs : List Int) (ha1 : a ≤ 9223372036854775807) : PSpec Try.prog 5 [.rs 1 (nums ls), .int .i64 a, .rs 2 (raw.map ptR), .rs 1 (nums cs)] TrueS := by
  refine .of_code' tab_ok Try.func5 (by rfl) rfl trivial ?_
  have hl : (raw.map ptR).length = raw.length := by simp
  have hc := nums_len cs
  conv => whnf
  refine CallG.of_code tab_ok Try.func15 (by rfl) rfl ?_
  conv => whnf
  refine LoopG.inv tab_ok 78 (fun x : { x : Nat × Int // x.1 ≤ 4 ∧ 0 ≤ x.2 ∧ x.2 ≤ 100 * x.1 } => [(1, .int .i64 a), (2, .rs 2 (raw.map ptR)), (3, .rs 1 (nums cs)), (9, .ptr 0 0), (10, .int .i64 (x.1.1 : Int))])
    (fun x => [chs ls x.1.2]) (fun x => 4 - x.1.1) ⟨(0, 0), by decide⟩ (.of [some 0] (by rfl) ?_) ?_
  · conv => whnf
    refine ⟨by rfl, ?_⟩
    conv => whnf
    refine ⟨by rfl, ?_⟩
    conv => whnf
    refine ⟨by rfl, ?_⟩
    conv => whnf
    refine ⟨by rfl, ?_⟩
    conv => whnf
    refine ⟨by rfl, ?_⟩
    conv => whnf
    refine ⟨by rfl, ?_⟩
    conv => whnf
    exact trivial
  · intro x
    obtain ⟨hx1, hx2, hx3⟩ := x.2
    conv => whnf
    refine ⟨fun hb => ?_, fun hb => ?_⟩
    · have hb : (x.1.1 : Int) < 4 := by simpa using hb
      conv => whnf
      refine (parts_s ls _ 5 hx2 (by omega) (by decide) (by decide)).call [0] (by decide) (And.intro rfl trivial) (And.intro rfl trivial) ?_
      rintro _ _ ⟨us, a2, rfl, rfl, hu1, hu2, hu3, hu4⟩
      have hul : (us.map ptR).length = us.length := by simp
      conv => whnf
      refine LoopG.inv tab_ok 78 (fun y : { y : List Int × Int // y.1.length ≤ us.length + 1 ∧ a2 ≤ y.2 ∧ y.2 ≤ a2 + 3 * (y.1.length : Int) } => [(1, .int .i64 a), (2, .rs 2 (raw.map ptR)), (3, .rs 1 (nums cs)), (9, .ptr 0 0), (10, .int .i64 (x.1.1 : Int)), (11, .rs 2 (us.map ptR)), (12, .sl 1), (13, .int .i64 (y.1.1.length : Int))])
        (fun y => [chs ls y.1.2, .row 2 1 (nums y.1.1)]) (fun y => us.length + 1 - y.1.1.length) ⟨([], a2), by simp, Int.le_refl _, by simp⟩ (.of [some 0, none] (by rfl) ?_) ?_
      · conv => whnf
        refine ⟨by rfl, ?_⟩
        conv => whnf
        refine ⟨by rfl, ?_⟩
        conv => whnf
        refine ⟨by rfl, ?_⟩
        conv => whnf
        refine ⟨by rfl, ?_⟩
        conv => whnf
        refine ⟨by rfl, ?_⟩
        conv => whnf
        refine ⟨by rfl, ?_⟩
        conv => whnf
        refine ⟨by rfl, ?_⟩
        conv => whnf
        refine ⟨by rfl, ?_⟩
        conv => whnf
        refine ⟨by rfl, ?_⟩
        conv => whnf
        exact trivial
      · intro y
        obtain ⟨hy1, hy2, hy3⟩ := y.2
        have c0 := nxt_lo ls y.1.2 20
        have c1 := nxt_hi ls y.1.2 20 (by omega)
        have ec : IntKind.i64.wrap (Int.tdiv (nxt ls y.1.2 20) 19) = nxt ls y.1.2 20 / 19 := by rw [Int.tdiv_eq_ediv_of_nonneg (by omega), w64 _ (by omega) (by omega)]
        conv => whnf
        refine (next_s ls y.1.2 20 (by omega) (by omega) (by decide)).call [0] (by decide) (And.intro rfl trivial) (And.intro rfl trivial) ?_
        rintro _ _ ⟨rfl, rfl⟩
        conv => whnf
        refine ⟨by omega, ?_⟩
        conv => whnf
        rw [ec, hul, w64 ((us.length : Int) + nxt ls y.1.2 20 / 19) (by omega) (by omega)]
        refine ⟨fun hd => ?_, fun hd => ?_⟩
        · have hd : (y.1.1.length : Int) < us.length + nxt ls y.1.2 20 / 19 := by simpa using hd
          have d0 := nxt_lo ls (y.1.2 + 1) 7
          have d1 := nxt_hi ls (y.1.2 + 1) 7 (by omega)
          have ed : IntKind.i64.wrap (6 + IntKind.i64.wrap (IntKind.i64.wrap (Int.tdiv (nxt ls (y.1.2 + 1) 7) 6) * 2)) = 6 + nxt ls (y.1.2 + 1) 7 / 6 * 2 := by
            rw [Int.tdiv_eq_ediv_of_nonneg (by omega), w64 (nxt ls (y.1.2 + 1) 7 / 6) (by omega) (by omega), w64 (_ * 2) (by omega) (by omega), w64 _ (by omega) (by omega)]
          have f0 := nxt_lo ls (y.1.2 + 1 + 1) (6 + nxt ls (y.1.2 + 1) 7 / 6 * 2)
          have f1 := nxt_hi ls (y.1.2 + 1 + 1) (6 + nxt ls (y.1.2 + 1) 7 / 6 * 2) (by omega)
          have yl := nums_len y.1.1
          conv => whnf
          refine (next_s ls (y.1.2 + 1) 7 (by omega) (by omega) (by decide)).call [0] (by decide) (And.intro rfl trivial) (And.intro rfl trivial) ?_
          rintro _ _ ⟨rfl, rfl⟩
          conv => whnf
          refine ⟨by omega, ?_⟩
          conv => whnf
          rw [ed]
          refine (next_s ls (y.1.2 + 1 + 1) _ (by omega) (by omega) (by omega)).call [0] (by decide) (And.intro rfl trivial) (And.intro rfl trivial) ?_
          rintro _ _ ⟨rfl, rfl⟩
          conv => whnf
          refine ⟨by simp; omega, ?_⟩
          conv => whnf
          refine ⟨_, lit_get (l := [0, 1, 10, 1000, 2199023255552, 7, 2199023255553, -1]) f0 (by simp; omega), ?_⟩
          conv => whnf
          refine ⟨by simp; omega, ?_⟩
          conv => whnf
          refine ⟨⟨(y.1.1 ++ [[0, 1, 10, 1000, 2199023255552, 7, 2199023255553, -1].getD (nxt ls (y.1.2 + 1 + 1) (6 + nxt ls (y.1.2 + 1) 7 / 6 * 2)).toNat 0], y.1.2 + 1 + 1 + 1), by simp; omega, by show a2 ≤ y.1.2 + 1 + 1 + 1; omega, by simp; omega⟩, by simp; omega, .of [some 0, some 4] (by rfl) ?_⟩
          conv => whnf
          refine ⟨by rfl, ?_⟩
          conv => whnf
          refine ⟨by rfl, ?_⟩
          conv => whnf
          refine ⟨by rfl, ?_⟩
          conv => whnf
          refine ⟨by rfl, ?_⟩
          conv => whnf
          refine ⟨by rfl, ?_⟩
          conv => whnf
          refine ⟨by exact (w64 _ (by omega) (by omega)).trans (by simp), ?_⟩
          conv => whnf
          refine ⟨by rfl, ?_⟩
          conv => whnf
          refine ⟨by rfl, ?_⟩
          conv => whnf
          refine ⟨by (simp [nums]), ?_⟩
          conv => whnf
          exact trivial
        · have hd : ¬ (y.1.1.length : Int) < us.length + nxt ls y.1.2 20 / 19 := by simpa using hd
          have yl := nums_len y.1.1
          have hul2 : us.length ≤ 1000000 := by omega
          have hyl2 : y.1.1.length ≤ 1000000 := by omega
          have am : ∀ k : Nat, [0, 10, 999, 1099511627776, 4611686018427387904, -1].getD k 0 ≤ (9223372036854775807 : Int) := fun k => by
            match k with
            | 0 => decide
            | 1 => decide
            | 2 => decide
            | 3 => decide
            | 4 => decide
            | 5 => decide
            | k + 6 => simp [List.getD]
          conv => whnf
          refine XG.freeze 1 ?_
          conv => whnf
          refine .same ?_
          conv => whnf
          refine (next_s ls (y.1.2 + 1) 6 (by omega) (by omega) (by decide)).call [0] (by decide) (And.intro rfl trivial) (And.intro rfl trivial) ?_
          rintro _ _ ⟨rfl, rfl⟩
          conv => whnf
          refine ⟨by exact ⟨nxt_lo _ _ _, nxt_hi _ _ _ (by omega)⟩, ?_⟩
          conv => whnf
          refine ⟨_, lit_get (l := [0, 10, 999, 1099511627776, 4611686018427387904, -1]) (nxt_lo _ _ _) (nxt_hi _ _ _ (by decide)), ?_⟩
          conv => whnf
          refine (fills_s _ (am _) us hul2 y.1.1 hyl2).call ?_
          rintro _ rfl
          conv => whnf
          refine both_f rfl ?_
          conv => whnf
          refine (fills_s a ha1 us hul2 y.1.1 hyl2).call ?_
          rintro _ rfl
          conv => whnf
          refine both_f rfl ?_
          conv => whnf
          refine ⟨⟨(x.1.1 + 1, y.1.2 + 1 + 1), by show x.1.1 + 1 ≤ 4; omega, by show 0 ≤ y.1.2 + 1 + 1; omega, by show y.1.2 + 1 + 1 ≤ 100 * ((x.1.1 + 1 : Nat) : Int); omega⟩, by show 4 - (x.1.1 + 1) < 4 - x.1.1; omega, .of [some 0] (by rfl) ?_⟩
          conv => whnf
          refine ⟨by rfl, ?_⟩
          conv => whnf
          refine ⟨by rfl, ?_⟩
          conv => whnf
          refine ⟨by rfl, ?_⟩
          conv => whnf
          refine ⟨by exact (w64 _ (by omega) (by omega)).trans (by simp), ?_⟩
          conv => whnf
          refine ⟨by rfl, ?_⟩
          conv => whnf
          refine ⟨by rfl, ?_⟩
          conv => whnf
          exact trivial
    · conv => whnf
      refine .same ?_
      conv => whnf
      refine ⟨fun hd => ?_, fun hd => ?_⟩
      · conv => whnf
      · have hd : (raw.length : Int) ≤ 70 := by rw [hl] at hd; simpa using hd
        conv => whnf
        refine ⟨fun he => ?_, fun he => ?_⟩
        · conv => whnf
        · have he : (cs.length : Int) ≤ 70 := by rw [hc] at he; simpa using he
          conv => whnf
          refine (fills_s a ha1 raw (by omega) cs (by omega)).call ?_
          rintro _ rfl
          conv => whnf
          refine both_t rfl ?_
          conv => whnf
          refine (awake3_s).call ?_
          rintro _ rfl
          conv => whnf
end Go.Proofs.Ythlomoacacebeab
