/- Chapter 18: one drawn call on a table and on the reference. -/
import Derived.Test.YtdommpfnoiemkaaLfH
import Derived.Test.YtdommpfnoiemkaaGenW
namespace Go.Proofs.Ytdommpfnoiemkaa
open Go.Sx
set_option linter.unusedSimpArgs false
set_option linter.unusedVariables false
abbrev actH (ls : List Int) (a : Int) (R : R3) : Hp := [chs ls a, lgT 2 3 4 5 (cel R.P R.r), lgP R.P, lgO (ordO R.P R.D 0), lgO (ordO R.P R.D 1), lgO (ordO R.P R.D 2), rgT 7 8 R.r, rgP R.P, lgO R.D]
def actQ (ls : List Int) (a : Int) (R : R3) (ho : Hp) : Prop :=
  ho = actH ls a R ++ [.dead, .dead] ∨
  ho = [chs ls a, lgT 9 3 4 5 (cel R.P R.r), .dead, lgO (ordO R.P R.D 0), lgO (ordO R.P R.D 1), lgO (ordO R.P R.D 2), rgT 10 8 R.r, .dead, lgO R.D, lgP R.P, rgP R.P] ∨
  ho = [chs ls a, lgT 2 9 4 5 (cel R.P R.r), lgP R.P, .dead, lgO (ordO R.P R.D 1), lgO (ordO R.P R.D 2), rgT 7 10 R.r, rgP R.P, .dead, lgO (ordO R.P R.D 0), lgO R.D] ∨
  ho = [chs ls a, lgT 2 3 9 5 (cel R.P R.r), lgP R.P, lgO (ordO R.P R.D 0), .dead, lgO (ordO R.P R.D 2), rgT 7 10 R.r, rgP R.P, .dead, lgO (ordO R.P R.D 1), lgO R.D] ∨
  ho = [chs ls a, lgT 2 3 4 9 (cel R.P R.r), lgP R.P, lgO (ordO R.P R.D 0), lgO (ordO R.P R.D 1), .dead, rgT 7 10 R.r, rgP R.P, .dead, lgO (ordO R.P R.D 2), lgO R.D]
theorem num_get {l : List Int} {i : Int} (h0 : 0 ≤ i) (h1 : i < (l.length : Int)) : (nums l)[i.toNat]? = some [SV.int .i64 (l.getD i.toNat 0)] := by
  rw [show nums l = l.map fun n => [SV.int .i64 n] from rfl, List.getElem?_map, List.getElem?_eq_getElem (by omega)]
  simp [List.getD, List.getElem?_eq_getElem (show i.toNat < l.length by omega)]
def ibL : List Int := [-1, 32]
def icL : List Int := [0, -1]
def idL : List Int := [0, 4097]
theorem fin1 (ls : List Int) (a : Int) : fIn (nxt ls a 3) := by
  have n0 := nxt_lo ls a 3
  have n1 := nxt_hi ls a 3 (by omega)
  unfold fIn fOk; omega
theorem fin2 {i : Int} (h0 : 0 ≤ i) (h1 : i < 2) : fIn (ibL.getD i.toNat 0) := by
  have : i = 0 ∨ i = 1 := by omega
  rcases this with rfl | rfl
  · exact .inr (.inl rfl)
  · exact .inr (.inr rfl)
theorem upR_le (r : Nat → Int) (f : Int) (i : Nat) : r i ≤ upR r f i := by
  unfold upR lup
  split
  · dsimp only; split <;> (try subst_vars) <;> omega
  · split
    · dsimp only; split <;> (try subst_vars) <;> omega
    · split
      · dsimp only; split <;> (try subst_vars) <;> omega
      · exact Int.le_refl _
set_option maxRecDepth 100000 in
set_option maxHeartbeats 8000000 in
theorem act_s (ls : List Int) (a : Int) (h0 : 0 ≤ a) (h1 : a < 9223372036854700000) {n m : Nat} {R : R3} (h : IR n m R) (hn : n ≤ 100) (hm : m ≤ 500) :
    GSpec Try.prog 26 [.ptr 0 0, .ptr 1 0, .ptr 6 0] (actH ls a R) fun v ho => ∃ (R' : R3) (a' : Int), v = .bool true ∧ IR (n + 1) (m + 1) R' ∧ (∀ i, R.r i ≤ R'.r i) ∧ a ≤ a' ∧ a' ≤ a + 20 ∧ actQ ls a' R' ho := by
  refine .of_code tab_ok Try.func26 (by rfl) rfl ?_
  have hl : (R.P.map pkE).length = R.P.length := List.length_map ..
  have hp := h.pl
  have wl : IntKind.i64.wrap (((R.P.map pkE).length : Int) + 2) = ((R.P.length + 2 : Nat) : Int) := by rw [hl, w64 _ (by omega) (by omega)]; omega
  conv => whnf
  refine DrawG.of mixed tab_ok ?_
  conv => whnf
  refine (next_s _ _ _ (by omega) (by omega) (by omega)).calld [0] (by decide) rfl (And.intro rfl trivial) (And.intro rfl trivial) ?_
  conv => whnf
  rw [wl]
  refine (next_s _ _ _ (by omega) (by omega) (by omega)).calld [0] (by decide) rfl (And.intro rfl trivial) (And.intro rfl trivial) ?_
  have q0 := nxt_lo ls (a + 1) ((R.P.length + 2 : Nat) : Int)
  have q1 := nxt_hi ls (a + 1) ((R.P.length + 2 : Nat) : Int) (by omega)
  have w1 : IntKind.i64.wrap (1 + nxt ls (a + 1) ((R.P.length + 2 : Nat) : Int)) = 1 + nxt ls (a + 1) ((R.P.length + 2 : Nat) : Int) := w64 _ (by omega) (by omega)
  conv => whnf
  refine ⟨by kernel_rfl, ?_⟩
  rw [w1]
  conv => whnf
  refine (next_s _ _ _ (by first | omega | assumption | decide | simp) (by first | omega | assumption | decide | simp) (by first | omega | assumption | decide | simp)).call [0] (by decide) (And.intro rfl trivial) (And.intro rfl trivial) ?_
  rintro _ _ ⟨rfl, rfl⟩
  conv => whnf
  refine ⟨fun hh10 => ?_, fun hh10 => ?_⟩
  · simp only [decide_eq_true_eq, decide_eq_false_iff_not] at hh10
    conv => whnf
    refine DrawG.of mixed tab_ok ?_
    conv => whnf
    refine (next_s _ _ _ (by first | omega | assumption | decide | simp) (by first | omega | assumption | decide | simp) (by first | omega | assumption | decide | simp)).calld [0] (by decide) rfl (And.intro rfl trivial) (And.intro rfl trivial) ?_
    conv => whnf
    refine ⟨by (exact ⟨nxt_lo _ _ _, nxt_hi _ _ _ (by omega)⟩), ?_⟩
    conv => whnf
    (refine ⟨_, num_get (l := ibL) (nxt_lo _ _ _) (nxt_hi _ _ _ (by omega)), ?_⟩)
    conv => whnf
    refine (next_s _ _ _ (by first | omega | assumption | decide | simp) (by first | omega | assumption | decide | simp) (by first | omega | assumption | decide | simp)).calld [0] (by decide) rfl (And.intro rfl trivial) (And.intro rfl trivial) ?_
    conv => whnf
    refine ⟨by (exact ⟨nxt_lo _ _ _, nxt_hi _ _ _ (by omega)⟩), ?_⟩
    conv => whnf
    (refine ⟨_, num_get (l := icL) (nxt_lo _ _ _) (nxt_hi _ _ _ (by omega)), ?_⟩)
    conv => whnf
    refine ⟨by kernel_rfl, ?_⟩
    conv => whnf
    refine (next_s _ _ _ (by first | omega | assumption | decide | simp) (by first | omega | assumption | decide | simp) (by first | omega | assumption | decide | simp)).call [0] (by decide) (And.intro rfl trivial) (And.intro rfl trivial) ?_
    rintro _ _ ⟨rfl, rfl⟩
    conv => whnf
    refine ⟨fun hh43 => ?_, fun hh43 => ?_⟩
    · simp only [decide_eq_true_eq, decide_eq_false_iff_not] at hh43
      conv => whnf
      refine (length_s _ _ (by first | omega | assumption | decide | simp) (by first | omega | assumption | decide | simp)).call [0] (by decide) trivial (And.intro rfl trivial) ?_
      rintro _ _ ⟨rfl, rfl⟩
      conv => whnf
      refine (next_s _ _ _ (by first | omega | assumption | decide | simp) (by first | omega | assumption | decide | simp) (by first | omega | assumption | decide | simp)).call [0] (by decide) (And.intro rfl trivial) (And.intro rfl trivial) ?_
      rintro _ _ ⟨rfl, rfl⟩
      conv => whnf
      refine ⟨fun hh64 => ?_, fun hh64 => ?_⟩
      · simp only [decide_eq_true_eq, decide_eq_false_iff_not] at hh64
        conv => whnf
        refine (next_s _ _ _ (by first | omega | assumption | decide | simp) (by first | omega | assumption | decide | simp) (by first | omega | assumption | decide | simp)).call [0] (by decide) (And.intro rfl trivial) (And.intro rfl trivial) ?_
        rintro _ _ ⟨rfl, rfl⟩
        conv => whnf
        refine ⟨by (exact ⟨nxt_lo _ _ _, nxt_hi _ _ _ (by omega)⟩), ?_⟩
        conv => whnf
        (refine ⟨_, num_get (l := idL) (nxt_lo _ _ _) (nxt_hi _ _ _ (by omega)), ?_⟩)
        conv => whnf
        refine (acceptR_s h (by omega) (by omega) _ _ (fin2 (nxt_lo _ _ _) (nxt_hi _ _ _ (by omega)))).call [1, 2, 3, 4, 5, 16] (by rfl) (by repeat' (first | exact trivial | exact rfl | apply And.intro)) (by repeat' (first | exact trivial | exact rfl | apply And.intro)) ?_
        rintro _ _ (⟨q, rfl, rfl⟩ | ⟨q, rfl, rfl⟩)
        · conv => whnf
          refine (raccR_s h (by omega) _ _ (fin2 (nxt_lo _ _ _) (nxt_hi _ _ _ (by omega)))).call [6, 7, 8, 17] (by rfl) (by repeat' (first | exact trivial | exact rfl | apply And.intro)) (by repeat' (first | exact trivial | exact rfl | apply And.intro)) ?_
          rintro _ _ (⟨q2, rfl, rfl⟩ | ⟨q2, rfl, rfl⟩)
          · obtain ⟨i1, _, _⟩ := ir_acc h q
            conv => whnf
            refine both_t (by simp) ?_
            conv => whnf
            (refine OutG.of [some 0, some 1, some 2, some 3, some 4, some 5, some 6, some 7, some 8, some 16, some 17] (.bool true) _ (by rfl) ⟨⟨R.P ++ [_], R.D, R.r⟩, (a + 1 + 1 + 1 + 1 + 1 + 1 + 1 + 1 + 1), rfl, i1.mono (by omega) (by omega), fun _ => Int.le_refl _, by omega, by omega, (.inr (.inl rfl))⟩ ?_; (conv => whnf); (repeat (first | exact trivial | (refine ⟨rfl, ?_⟩; (conv => whnf)) | (refine ⟨(by simp), ?_⟩; (conv => whnf)))); done)
          · exact absurd q q2
        · conv => whnf
          refine (raccR_s h (by omega) _ _ (fin2 (nxt_lo _ _ _) (nxt_hi _ _ _ (by omega)))).call [6, 7, 8, 17] (by rfl) (by repeat' (first | exact trivial | exact rfl | apply And.intro)) (by repeat' (first | exact trivial | exact rfl | apply And.intro)) ?_
          rintro _ _ (⟨q2, rfl, rfl⟩ | ⟨q2, rfl, rfl⟩)
          · exact absurd q2 q
          · conv => whnf
            refine both_t rfl ?_
            conv => whnf
            (refine OutG.of [some 0, some 1, some 2, some 3, some 4, some 5, some 6, some 7, some 8, none, none] (.bool true) _ (by rfl) ⟨R, (a + 1 + 1 + 1 + 1 + 1 + 1 + 1 + 1 + 1), rfl, h.mono (by omega) (by omega), fun _ => Int.le_refl _, by omega, by omega, (.inl rfl)⟩ ?_; (conv => whnf); (repeat (first | exact trivial | (refine ⟨rfl, ?_⟩; (conv => whnf)) | (refine ⟨(by simp), ?_⟩; (conv => whnf)))); done)
      · simp only [decide_eq_true_eq, decide_eq_false_iff_not] at hh64
        conv => whnf
        refine (acceptR_s h (by omega) (by omega) _ _ (fin2 (nxt_lo _ _ _) (nxt_hi _ _ _ (by omega)))).call [1, 2, 3, 4, 5, 15] (by rfl) (by repeat' (first | exact trivial | exact rfl | apply And.intro)) (by repeat' (first | exact trivial | exact rfl | apply And.intro)) ?_
        rintro _ _ (⟨q, rfl, rfl⟩ | ⟨q, rfl, rfl⟩)
        · conv => whnf
          refine (raccR_s h (by omega) _ _ (fin2 (nxt_lo _ _ _) (nxt_hi _ _ _ (by omega)))).call [6, 7, 8, 16] (by rfl) (by repeat' (first | exact trivial | exact rfl | apply And.intro)) (by repeat' (first | exact trivial | exact rfl | apply And.intro)) ?_
          rintro _ _ (⟨q2, rfl, rfl⟩ | ⟨q2, rfl, rfl⟩)
          · obtain ⟨i1, _, _⟩ := ir_acc h q
            conv => whnf
            refine both_t (by simp) ?_
            conv => whnf
            (refine OutG.of [some 0, some 1, some 2, some 3, some 4, some 5, some 6, some 7, some 8, some 15, some 16] (.bool true) _ (by rfl) ⟨⟨R.P ++ [_], R.D, R.r⟩, (a + 1 + 1 + 1 + 1 + 1 + 1 + 1 + 1), rfl, i1.mono (by omega) (by omega), fun _ => Int.le_refl _, by omega, by omega, (.inr (.inl rfl))⟩ ?_; (conv => whnf); (repeat (first | exact trivial | (refine ⟨rfl, ?_⟩; (conv => whnf)) | (refine ⟨(by simp), ?_⟩; (conv => whnf)))); done)
          · exact absurd q q2
        · conv => whnf
          refine (raccR_s h (by omega) _ _ (fin2 (nxt_lo _ _ _) (nxt_hi _ _ _ (by omega)))).call [6, 7, 8, 16] (by rfl) (by repeat' (first | exact trivial | exact rfl | apply And.intro)) (by repeat' (first | exact trivial | exact rfl | apply And.intro)) ?_
          rintro _ _ (⟨q2, rfl, rfl⟩ | ⟨q2, rfl, rfl⟩)
          · exact absurd q2 q
          · conv => whnf
            refine both_t rfl ?_
            conv => whnf
            (refine OutG.of [some 0, some 1, some 2, some 3, some 4, some 5, some 6, some 7, some 8, none, none] (.bool true) _ (by rfl) ⟨R, (a + 1 + 1 + 1 + 1 + 1 + 1 + 1 + 1), rfl, h.mono (by omega) (by omega), fun _ => Int.le_refl _, by omega, by omega, (.inl rfl)⟩ ?_; (conv => whnf); (repeat (first | exact trivial | (refine ⟨rfl, ?_⟩; (conv => whnf)) | (refine ⟨(by simp), ?_⟩; (conv => whnf)))); done)
    · simp only [decide_eq_true_eq, decide_eq_false_iff_not] at hh43
      conv => whnf
      refine ⟨fun hh96 => ?_, fun hh96 => ?_⟩
      · simp only [decide_eq_true_eq, decide_eq_false_iff_not] at hh96
        conv => whnf
        refine (length_s _ _ (by first | omega | assumption | decide | simp) (by first | omega | assumption | decide | simp)).call [0] (by decide) trivial (And.intro rfl trivial) ?_
        rintro _ _ ⟨rfl, rfl⟩
        conv => whnf
        refine (next_s _ _ _ (by first | omega | assumption | decide | simp) (by first | omega | assumption | decide | simp) (by first | omega | assumption | decide | simp)).call [0] (by decide) (And.intro rfl trivial) (And.intro rfl trivial) ?_
        rintro _ _ ⟨rfl, rfl⟩
        conv => whnf
        refine ⟨fun hh117 => ?_, fun hh117 => ?_⟩
        · simp only [decide_eq_true_eq, decide_eq_false_iff_not] at hh117
          conv => whnf
          refine (next_s _ _ _ (by first | omega | assumption | decide | simp) (by first | omega | assumption | decide | simp) (by first | omega | assumption | decide | simp)).call [0] (by decide) (And.intro rfl trivial) (And.intro rfl trivial) ?_
          rintro _ _ ⟨rfl, rfl⟩
          conv => whnf
          refine ⟨by (exact ⟨nxt_lo _ _ _, nxt_hi _ _ _ (by omega)⟩), ?_⟩
          conv => whnf
          (refine ⟨_, num_get (l := idL) (nxt_lo _ _ _) (nxt_hi _ _ _ (by omega)), ?_⟩)
          conv => whnf
          refine (acceptR_s h (by omega) (by omega) _ _ (fin2 (nxt_lo _ _ _) (nxt_hi _ _ _ (by omega)))).call [1, 2, 3, 4, 5, 16] (by rfl) (by repeat' (first | exact trivial | exact rfl | apply And.intro)) (by repeat' (first | exact trivial | exact rfl | apply And.intro)) ?_
          rintro _ _ (⟨q, rfl, rfl⟩ | ⟨q, rfl, rfl⟩)
          · conv => whnf
            refine (raccR_s h (by omega) _ _ (fin2 (nxt_lo _ _ _) (nxt_hi _ _ _ (by omega)))).call [6, 7, 8, 17] (by rfl) (by repeat' (first | exact trivial | exact rfl | apply And.intro)) (by repeat' (first | exact trivial | exact rfl | apply And.intro)) ?_
            rintro _ _ (⟨q2, rfl, rfl⟩ | ⟨q2, rfl, rfl⟩)
            · obtain ⟨i1, _, _⟩ := ir_acc h q
              conv => whnf
              refine both_t (by simp) ?_
              conv => whnf
              (refine OutG.of [some 0, some 1, some 2, some 3, some 4, some 5, some 6, some 7, some 8, some 16, some 17] (.bool true) _ (by rfl) ⟨⟨R.P ++ [_], R.D, R.r⟩, (a + 1 + 1 + 1 + 1 + 1 + 1 + 1 + 1 + 1), rfl, i1.mono (by omega) (by omega), fun _ => Int.le_refl _, by omega, by omega, (.inr (.inl rfl))⟩ ?_; (conv => whnf); (repeat (first | exact trivial | (refine ⟨rfl, ?_⟩; (conv => whnf)) | (refine ⟨(by simp), ?_⟩; (conv => whnf)))); done)
            · exact absurd q q2
          · conv => whnf
            refine (raccR_s h (by omega) _ _ (fin2 (nxt_lo _ _ _) (nxt_hi _ _ _ (by omega)))).call [6, 7, 8, 17] (by rfl) (by repeat' (first | exact trivial | exact rfl | apply And.intro)) (by repeat' (first | exact trivial | exact rfl | apply And.intro)) ?_
            rintro _ _ (⟨q2, rfl, rfl⟩ | ⟨q2, rfl, rfl⟩)
            · exact absurd q2 q
            · conv => whnf
              refine both_t rfl ?_
              conv => whnf
              (refine OutG.of [some 0, some 1, some 2, some 3, some 4, some 5, some 6, some 7, some 8, none, none] (.bool true) _ (by rfl) ⟨R, (a + 1 + 1 + 1 + 1 + 1 + 1 + 1 + 1 + 1), rfl, h.mono (by omega) (by omega), fun _ => Int.le_refl _, by omega, by omega, (.inl rfl)⟩ ?_; (conv => whnf); (repeat (first | exact trivial | (refine ⟨rfl, ?_⟩; (conv => whnf)) | (refine ⟨(by simp), ?_⟩; (conv => whnf)))); done)
        · simp only [decide_eq_true_eq, decide_eq_false_iff_not] at hh117
          conv => whnf
          refine (acceptR_s h (by omega) (by omega) _ _ (fin2 (nxt_lo _ _ _) (nxt_hi _ _ _ (by omega)))).call [1, 2, 3, 4, 5, 15] (by rfl) (by repeat' (first | exact trivial | exact rfl | apply And.intro)) (by repeat' (first | exact trivial | exact rfl | apply And.intro)) ?_
          rintro _ _ (⟨q, rfl, rfl⟩ | ⟨q, rfl, rfl⟩)
          · conv => whnf
            refine (raccR_s h (by omega) _ _ (fin2 (nxt_lo _ _ _) (nxt_hi _ _ _ (by omega)))).call [6, 7, 8, 16] (by rfl) (by repeat' (first | exact trivial | exact rfl | apply And.intro)) (by repeat' (first | exact trivial | exact rfl | apply And.intro)) ?_
            rintro _ _ (⟨q2, rfl, rfl⟩ | ⟨q2, rfl, rfl⟩)
            · obtain ⟨i1, _, _⟩ := ir_acc h q
              conv => whnf
              refine both_t (by simp) ?_
              conv => whnf
              (refine OutG.of [some 0, some 1, some 2, some 3, some 4, some 5, some 6, some 7, some 8, some 15, some 16] (.bool true) _ (by rfl) ⟨⟨R.P ++ [_], R.D, R.r⟩, (a + 1 + 1 + 1 + 1 + 1 + 1 + 1 + 1), rfl, i1.mono (by omega) (by omega), fun _ => Int.le_refl _, by omega, by omega, (.inr (.inl rfl))⟩ ?_; (conv => whnf); (repeat (first | exact trivial | (refine ⟨rfl, ?_⟩; (conv => whnf)) | (refine ⟨(by simp), ?_⟩; (conv => whnf)))); done)
            · exact absurd q q2
          · conv => whnf
            refine (raccR_s h (by omega) _ _ (fin2 (nxt_lo _ _ _) (nxt_hi _ _ _ (by omega)))).call [6, 7, 8, 16] (by rfl) (by repeat' (first | exact trivial | exact rfl | apply And.intro)) (by repeat' (first | exact trivial | exact rfl | apply And.intro)) ?_
            rintro _ _ (⟨q2, rfl, rfl⟩ | ⟨q2, rfl, rfl⟩)
            · exact absurd q2 q
            · conv => whnf
              refine both_t rfl ?_
              conv => whnf
              (refine OutG.of [some 0, some 1, some 2, some 3, some 4, some 5, some 6, some 7, some 8, none, none] (.bool true) _ (by rfl) ⟨R, (a + 1 + 1 + 1 + 1 + 1 + 1 + 1 + 1), rfl, h.mono (by omega) (by omega), fun _ => Int.le_refl _, by omega, by omega, (.inl rfl)⟩ ?_; (conv => whnf); (repeat (first | exact trivial | (refine ⟨rfl, ?_⟩; (conv => whnf)) | (refine ⟨(by simp), ?_⟩; (conv => whnf)))); done)
      · simp only [decide_eq_true_eq, decide_eq_false_iff_not] at hh96
        conv => whnf
        refine ⟨fun hh149 => ?_, fun hh149 => ?_⟩
        · simp only [decide_eq_true_eq, decide_eq_false_iff_not] at hh149
          conv => whnf
          refine (length_s _ _ (by first | omega | assumption | decide | simp) (by first | omega | assumption | decide | simp)).call [0] (by decide) trivial (And.intro rfl trivial) ?_
          rintro _ _ ⟨rfl, rfl⟩
          conv => whnf
          refine (next_s _ _ _ (by first | omega | assumption | decide | simp) (by first | omega | assumption | decide | simp) (by first | omega | assumption | decide | simp)).call [0] (by decide) (And.intro rfl trivial) (And.intro rfl trivial) ?_
          rintro _ _ ⟨rfl, rfl⟩
          conv => whnf
          refine ⟨fun hh170 => ?_, fun hh170 => ?_⟩
          · simp only [decide_eq_true_eq, decide_eq_false_iff_not] at hh170
            conv => whnf
            refine (next_s _ _ _ (by first | omega | assumption | decide | simp) (by first | omega | assumption | decide | simp) (by first | omega | assumption | decide | simp)).call [0] (by decide) (And.intro rfl trivial) (And.intro rfl trivial) ?_
            rintro _ _ ⟨rfl, rfl⟩
            conv => whnf
            refine ⟨by (exact ⟨nxt_lo _ _ _, nxt_hi _ _ _ (by omega)⟩), ?_⟩
            conv => whnf
            (refine ⟨_, num_get (l := idL) (nxt_lo _ _ _) (nxt_hi _ _ _ (by omega)), ?_⟩)
            conv => whnf
            refine (acceptR_s h (by omega) (by omega) _ _ (fin2 (nxt_lo _ _ _) (nxt_hi _ _ _ (by omega)))).call [1, 2, 3, 4, 5, 16] (by rfl) (by repeat' (first | exact trivial | exact rfl | apply And.intro)) (by repeat' (first | exact trivial | exact rfl | apply And.intro)) ?_
            rintro _ _ (⟨q, rfl, rfl⟩ | ⟨q, rfl, rfl⟩)
            · conv => whnf
              refine (raccR_s h (by omega) _ _ (fin2 (nxt_lo _ _ _) (nxt_hi _ _ _ (by omega)))).call [6, 7, 8, 17] (by rfl) (by repeat' (first | exact trivial | exact rfl | apply And.intro)) (by repeat' (first | exact trivial | exact rfl | apply And.intro)) ?_
              rintro _ _ (⟨q2, rfl, rfl⟩ | ⟨q2, rfl, rfl⟩)
              · obtain ⟨i1, _, _⟩ := ir_acc h q
                conv => whnf
                refine both_t (by simp) ?_
                conv => whnf
                (refine OutG.of [some 0, some 1, some 2, some 3, some 4, some 5, some 6, some 7, some 8, some 16, some 17] (.bool true) _ (by rfl) ⟨⟨R.P ++ [_], R.D, R.r⟩, (a + 1 + 1 + 1 + 1 + 1 + 1 + 1 + 1 + 1), rfl, i1.mono (by omega) (by omega), fun _ => Int.le_refl _, by omega, by omega, (.inr (.inl rfl))⟩ ?_; (conv => whnf); (repeat (first | exact trivial | (refine ⟨rfl, ?_⟩; (conv => whnf)) | (refine ⟨(by simp), ?_⟩; (conv => whnf)))); done)
              · exact absurd q q2
            · conv => whnf
              refine (raccR_s h (by omega) _ _ (fin2 (nxt_lo _ _ _) (nxt_hi _ _ _ (by omega)))).call [6, 7, 8, 17] (by rfl) (by repeat' (first | exact trivial | exact rfl | apply And.intro)) (by repeat' (first | exact trivial | exact rfl | apply And.intro)) ?_
              rintro _ _ (⟨q2, rfl, rfl⟩ | ⟨q2, rfl, rfl⟩)
              · exact absurd q2 q
              · conv => whnf
                refine both_t rfl ?_
                conv => whnf
                (refine OutG.of [some 0, some 1, some 2, some 3, some 4, some 5, some 6, some 7, some 8, none, none] (.bool true) _ (by rfl) ⟨R, (a + 1 + 1 + 1 + 1 + 1 + 1 + 1 + 1 + 1), rfl, h.mono (by omega) (by omega), fun _ => Int.le_refl _, by omega, by omega, (.inl rfl)⟩ ?_; (conv => whnf); (repeat (first | exact trivial | (refine ⟨rfl, ?_⟩; (conv => whnf)) | (refine ⟨(by simp), ?_⟩; (conv => whnf)))); done)
          · simp only [decide_eq_true_eq, decide_eq_false_iff_not] at hh170
            conv => whnf
            refine (acceptR_s h (by omega) (by omega) _ _ (fin2 (nxt_lo _ _ _) (nxt_hi _ _ _ (by omega)))).call [1, 2, 3, 4, 5, 15] (by rfl) (by repeat' (first | exact trivial | exact rfl | apply And.intro)) (by repeat' (first | exact trivial | exact rfl | apply And.intro)) ?_
            rintro _ _ (⟨q, rfl, rfl⟩ | ⟨q, rfl, rfl⟩)
            · conv => whnf
              refine (raccR_s h (by omega) _ _ (fin2 (nxt_lo _ _ _) (nxt_hi _ _ _ (by omega)))).call [6, 7, 8, 16] (by rfl) (by repeat' (first | exact trivial | exact rfl | apply And.intro)) (by repeat' (first | exact trivial | exact rfl | apply And.intro)) ?_
              rintro _ _ (⟨q2, rfl, rfl⟩ | ⟨q2, rfl, rfl⟩)
              · obtain ⟨i1, _, _⟩ := ir_acc h q
                conv => whnf
                refine both_t (by simp) ?_
                conv => whnf
                (refine OutG.of [some 0, some 1, some 2, some 3, some 4, some 5, some 6, some 7, some 8, some 15, some 16] (.bool true) _ (by rfl) ⟨⟨R.P ++ [_], R.D, R.r⟩, (a + 1 + 1 + 1 + 1 + 1 + 1 + 1 + 1), rfl, i1.mono (by omega) (by omega), fun _ => Int.le_refl _, by omega, by omega, (.inr (.inl rfl))⟩ ?_; (conv => whnf); (repeat (first | exact trivial | (refine ⟨rfl, ?_⟩; (conv => whnf)) | (refine ⟨(by simp), ?_⟩; (conv => whnf)))); done)
              · exact absurd q q2
            · conv => whnf
              refine (raccR_s h (by omega) _ _ (fin2 (nxt_lo _ _ _) (nxt_hi _ _ _ (by omega)))).call [6, 7, 8, 16] (by rfl) (by repeat' (first | exact trivial | exact rfl | apply And.intro)) (by repeat' (first | exact trivial | exact rfl | apply And.intro)) ?_
              rintro _ _ (⟨q2, rfl, rfl⟩ | ⟨q2, rfl, rfl⟩)
              · exact absurd q2 q
              · conv => whnf
                refine both_t rfl ?_
                conv => whnf
                (refine OutG.of [some 0, some 1, some 2, some 3, some 4, some 5, some 6, some 7, some 8, none, none] (.bool true) _ (by rfl) ⟨R, (a + 1 + 1 + 1 + 1 + 1 + 1 + 1 + 1), rfl, h.mono (by omega) (by omega), fun _ => Int.le_refl _, by omega, by omega, (.inl rfl)⟩ ?_; (conv => whnf); (repeat (first | exact trivial | (refine ⟨rfl, ?_⟩; (conv => whnf)) | (refine ⟨(by simp), ?_⟩; (conv => whnf)))); done)
        · simp only [decide_eq_true_eq, decide_eq_false_iff_not] at hh149
          conv => whnf
          refine ⟨fun hh202 => ?_, fun hh202 => ?_⟩
          · simp only [decide_eq_true_eq, decide_eq_false_iff_not] at hh202
            conv => whnf
            refine (refuseR_s h (by omega) (by omega) _ (fin2 (nxt_lo _ _ _) (nxt_hi _ _ _ (by omega)))).call [1, 2, 3, 4, 5] (by rfl) (by repeat' (first | exact trivial | exact rfl | apply And.intro)) (by repeat' (first | exact trivial | exact rfl | apply And.intro)) ?_
            rintro _ _ ⟨rfl, rfl⟩
            conv => whnf
            refine (rrefR_s h (by omega) _ (fin2 (nxt_lo _ _ _) (nxt_hi _ _ _ (by omega)))).call [6, 7, 8] (by rfl) (by repeat' (first | exact trivial | exact rfl | apply And.intro)) (by repeat' (first | exact trivial | exact rfl | apply And.intro)) ?_
            rintro _ _ ⟨rfl, rfl⟩
            have i1 := (ir_ref (f := (ibL.getD (nxt ls (a + 1 + 1 + 1) 2).toNat 0)) h (fin2 (nxt_lo _ _ _) (nxt_hi _ _ _ (by omega)))).1
            conv => whnf
            (refine OutG.of [some 0, some 1, some 2, some 3, some 4, some 5, some 6, some 7, some 8, none, none] (.bool true) _ (by rfl) ⟨⟨R.P, R.D, upR R.r _⟩, (a + 1 + 1 + 1 + 1 + 1 + 1), rfl, i1.mono (by omega) (by omega), upR_le _ _, by omega, by omega, (.inl rfl)⟩ ?_; (conv => whnf); (repeat (first | exact trivial | (refine ⟨rfl, ?_⟩; (conv => whnf)) | (refine ⟨(by simp), ?_⟩; (conv => whnf)))); done)
          · simp only [decide_eq_true_eq, decide_eq_false_iff_not] at hh202
            conv => whnf
            refine ⟨fun hh213 => ?_, fun hh213 => ?_⟩
            · simp only [decide_eq_true_eq, decide_eq_false_iff_not] at hh213
              conv => whnf
              refine (sendR_s h (by omega) _).call [1, 2, 3, 4, 5] (by rfl) (by repeat' (first | exact trivial | exact rfl | apply And.intro)) (by repeat' (first | exact trivial | exact rfl | apply And.intro)) ?_
              rintro _ _ ⟨rfl, rfl⟩
              conv => whnf
              refine (rsendR_s h (by omega) _).call [6, 7, 8] (by rfl) (by repeat' (first | exact trivial | exact rfl | apply And.intro)) (by repeat' (first | exact trivial | exact rfl | apply And.intro)) ?_
              rintro _ _ ⟨rfl, rfl⟩
              conv => whnf
              (refine OutG.of [some 0, some 1, some 2, some 3, some 4, some 5, some 6, some 7, some 8, none, none] (.bool true) _ (by rfl) ⟨⟨sndP R.P (icL.getD (nxt ls (a + 1 + 1 + 1 + 1) 2).toNat 0), R.D, R.r⟩, (a + 1 + 1 + 1 + 1 + 1 + 1), rfl, (ir_snd h _).1.mono (by omega) (by omega), fun _ => Int.le_refl _, by omega, by omega, (.inl rfl)⟩ ?_; (conv => whnf); (repeat (first | exact trivial | (refine ⟨rfl, ?_⟩; (conv => whnf)) | (refine ⟨(by simp), ?_⟩; (conv => whnf)))); done)
            · simp only [decide_eq_true_eq, decide_eq_false_iff_not] at hh213
              conv => whnf
              refine ⟨fun hh224 => ?_, fun hh224 => ?_⟩
              · simp only [decide_eq_true_eq, decide_eq_false_iff_not] at hh224
                conv => whnf
                refine (sendR_s h (by omega) _).call [1, 2, 3, 4, 5] (by rfl) (by repeat' (first | exact trivial | exact rfl | apply And.intro)) (by repeat' (first | exact trivial | exact rfl | apply And.intro)) ?_
                rintro _ _ ⟨rfl, rfl⟩
                conv => whnf
                refine (rsendR_s h (by omega) _).call [6, 7, 8] (by rfl) (by repeat' (first | exact trivial | exact rfl | apply And.intro)) (by repeat' (first | exact trivial | exact rfl | apply And.intro)) ?_
                rintro _ _ ⟨rfl, rfl⟩
                conv => whnf
                (refine OutG.of [some 0, some 1, some 2, some 3, some 4, some 5, some 6, some 7, some 8, none, none] (.bool true) _ (by rfl) ⟨⟨sndP R.P (icL.getD (nxt ls (a + 1 + 1 + 1 + 1) 2).toNat 0), R.D, R.r⟩, (a + 1 + 1 + 1 + 1 + 1 + 1), rfl, (ir_snd h _).1.mono (by omega) (by omega), fun _ => Int.le_refl _, by omega, by omega, (.inl rfl)⟩ ?_; (conv => whnf); (repeat (first | exact trivial | (refine ⟨rfl, ?_⟩; (conv => whnf)) | (refine ⟨(by simp), ?_⟩; (conv => whnf)))); done)
              · simp only [decide_eq_true_eq, decide_eq_false_iff_not] at hh224
                conv => whnf
                refine ⟨fun hh235 => ?_, fun hh235 => ?_⟩
                · simp only [decide_eq_true_eq, decide_eq_false_iff_not] at hh235
                  conv => whnf
                  refine (deliverR_s h (by omega) (by omega) _).call [1, 2, 3, 4, 5, 15] (by rfl) (by repeat' (first | exact trivial | exact rfl | apply And.intro)) (by repeat' (first | exact trivial | exact rfl | apply And.intro)) ?_
                  rintro _ _ (⟨q, rfl, hs⟩ | ⟨q, rfl, rfl⟩)
                  · rcases hs with rfl | rfl | rfl
                    · conv => whnf
                      refine (rdelR_s h (by omega) _).call [6, 7, 8, 16] (by rfl) (by repeat' (first | exact trivial | exact rfl | apply And.intro)) (by repeat' (first | exact trivial | exact rfl | apply And.intro)) ?_
                      rintro _ _ (⟨q2, rfl, rfl⟩ | ⟨q2, rfl, rfl⟩)
                      · conv => whnf
                        (refine OutG.of [some 0, some 1, some 2, some 3, some 4, some 5, some 6, some 7, some 8, some 15, some 16] (.bool true) _ (by rfl) ⟨⟨dlP R _, R.D ++ [_], R.r⟩, (a + 1 + 1 + 1 + 1 + 1 + 1), rfl, (ir_del h q).1.mono (by omega) (by omega), fun _ => Int.le_refl _, by omega, by omega, (.inr (.inr (.inl rfl)))⟩ ?_; (conv => whnf); (repeat (first | exact trivial | (refine ⟨rfl, ?_⟩; (conv => whnf)) | (refine ⟨(by simp), ?_⟩; (conv => whnf)))); done)
                      · exact absurd q q2
                    · conv => whnf
                      refine (rdelR_s h (by omega) _).call [6, 7, 8, 16] (by rfl) (by repeat' (first | exact trivial | exact rfl | apply And.intro)) (by repeat' (first | exact trivial | exact rfl | apply And.intro)) ?_
                      rintro _ _ (⟨q2, rfl, rfl⟩ | ⟨q2, rfl, rfl⟩)
                      · conv => whnf
                        (refine OutG.of [some 0, some 1, some 2, some 3, some 4, some 5, some 6, some 7, some 8, some 15, some 16] (.bool true) _ (by rfl) ⟨⟨dlP R _, R.D ++ [_], R.r⟩, (a + 1 + 1 + 1 + 1 + 1 + 1), rfl, (ir_del h q).1.mono (by omega) (by omega), fun _ => Int.le_refl _, by omega, by omega, (.inr (.inr (.inr (.inl rfl))))⟩ ?_; (conv => whnf); (repeat (first | exact trivial | (refine ⟨rfl, ?_⟩; (conv => whnf)) | (refine ⟨(by simp), ?_⟩; (conv => whnf)))); done)
                      · exact absurd q q2
                    · conv => whnf
                      refine (rdelR_s h (by omega) _).call [6, 7, 8, 16] (by rfl) (by repeat' (first | exact trivial | exact rfl | apply And.intro)) (by repeat' (first | exact trivial | exact rfl | apply And.intro)) ?_
                      rintro _ _ (⟨q2, rfl, rfl⟩ | ⟨q2, rfl, rfl⟩)
                      · conv => whnf
                        (refine OutG.of [some 0, some 1, some 2, some 3, some 4, some 5, some 6, some 7, some 8, some 15, some 16] (.bool true) _ (by rfl) ⟨⟨dlP R _, R.D ++ [_], R.r⟩, (a + 1 + 1 + 1 + 1 + 1 + 1), rfl, (ir_del h q).1.mono (by omega) (by omega), fun _ => Int.le_refl _, by omega, by omega, (.inr (.inr (.inr (.inr rfl))))⟩ ?_; (conv => whnf); (repeat (first | exact trivial | (refine ⟨rfl, ?_⟩; (conv => whnf)) | (refine ⟨(by simp), ?_⟩; (conv => whnf)))); done)
                      · exact absurd q q2
                  · conv => whnf
                    refine (rdelR_s h (by omega) _).call [6, 7, 8, 16] (by rfl) (by repeat' (first | exact trivial | exact rfl | apply And.intro)) (by repeat' (first | exact trivial | exact rfl | apply And.intro)) ?_
                    rintro _ _ (⟨q2, rfl, rfl⟩ | ⟨q2, rfl, rfl⟩)
                    · exact absurd q2 q
                    · conv => whnf
                      (refine OutG.of [some 0, some 1, some 2, some 3, some 4, some 5, some 6, some 7, some 8, none, none] (.bool true) _ (by rfl) ⟨R, (a + 1 + 1 + 1 + 1 + 1 + 1), rfl, h.mono (by omega) (by omega), fun _ => Int.le_refl _, by omega, by omega, (.inl rfl)⟩ ?_; (conv => whnf); (repeat (first | exact trivial | (refine ⟨rfl, ?_⟩; (conv => whnf)) | (refine ⟨(by simp), ?_⟩; (conv => whnf)))); done)
                · simp only [decide_eq_true_eq, decide_eq_false_iff_not] at hh235
                  conv => whnf
                  refine ⟨fun hh246 => ?_, fun hh246 => ?_⟩
                  · simp only [decide_eq_true_eq, decide_eq_false_iff_not] at hh246
                    conv => whnf
                    refine (deliverR_s h (by omega) (by omega) _).call [1, 2, 3, 4, 5, 15] (by rfl) (by repeat' (first | exact trivial | exact rfl | apply And.intro)) (by repeat' (first | exact trivial | exact rfl | apply And.intro)) ?_
                    rintro _ _ (⟨q, rfl, hs⟩ | ⟨q, rfl, rfl⟩)
                    · rcases hs with rfl | rfl | rfl
                      · conv => whnf
                        refine (rdelR_s h (by omega) _).call [6, 7, 8, 16] (by rfl) (by repeat' (first | exact trivial | exact rfl | apply And.intro)) (by repeat' (first | exact trivial | exact rfl | apply And.intro)) ?_
                        rintro _ _ (⟨q2, rfl, rfl⟩ | ⟨q2, rfl, rfl⟩)
                        · conv => whnf
                          (refine OutG.of [some 0, some 1, some 2, some 3, some 4, some 5, some 6, some 7, some 8, some 15, some 16] (.bool true) _ (by rfl) ⟨⟨dlP R _, R.D ++ [_], R.r⟩, (a + 1 + 1 + 1 + 1 + 1 + 1), rfl, (ir_del h q).1.mono (by omega) (by omega), fun _ => Int.le_refl _, by omega, by omega, (.inr (.inr (.inl rfl)))⟩ ?_; (conv => whnf); (repeat (first | exact trivial | (refine ⟨rfl, ?_⟩; (conv => whnf)) | (refine ⟨(by simp), ?_⟩; (conv => whnf)))); done)
                        · exact absurd q q2
                      · conv => whnf
                        refine (rdelR_s h (by omega) _).call [6, 7, 8, 16] (by rfl) (by repeat' (first | exact trivial | exact rfl | apply And.intro)) (by repeat' (first | exact trivial | exact rfl | apply And.intro)) ?_
                        rintro _ _ (⟨q2, rfl, rfl⟩ | ⟨q2, rfl, rfl⟩)
                        · conv => whnf
                          (refine OutG.of [some 0, some 1, some 2, some 3, some 4, some 5, some 6, some 7, some 8, some 15, some 16] (.bool true) _ (by rfl) ⟨⟨dlP R _, R.D ++ [_], R.r⟩, (a + 1 + 1 + 1 + 1 + 1 + 1), rfl, (ir_del h q).1.mono (by omega) (by omega), fun _ => Int.le_refl _, by omega, by omega, (.inr (.inr (.inr (.inl rfl))))⟩ ?_; (conv => whnf); (repeat (first | exact trivial | (refine ⟨rfl, ?_⟩; (conv => whnf)) | (refine ⟨(by simp), ?_⟩; (conv => whnf)))); done)
                        · exact absurd q q2
                      · conv => whnf
                        refine (rdelR_s h (by omega) _).call [6, 7, 8, 16] (by rfl) (by repeat' (first | exact trivial | exact rfl | apply And.intro)) (by repeat' (first | exact trivial | exact rfl | apply And.intro)) ?_
                        rintro _ _ (⟨q2, rfl, rfl⟩ | ⟨q2, rfl, rfl⟩)
                        · conv => whnf
                          (refine OutG.of [some 0, some 1, some 2, some 3, some 4, some 5, some 6, some 7, some 8, some 15, some 16] (.bool true) _ (by rfl) ⟨⟨dlP R _, R.D ++ [_], R.r⟩, (a + 1 + 1 + 1 + 1 + 1 + 1), rfl, (ir_del h q).1.mono (by omega) (by omega), fun _ => Int.le_refl _, by omega, by omega, (.inr (.inr (.inr (.inr rfl))))⟩ ?_; (conv => whnf); (repeat (first | exact trivial | (refine ⟨rfl, ?_⟩; (conv => whnf)) | (refine ⟨(by simp), ?_⟩; (conv => whnf)))); done)
                        · exact absurd q q2
                    · conv => whnf
                      refine (rdelR_s h (by omega) _).call [6, 7, 8, 16] (by rfl) (by repeat' (first | exact trivial | exact rfl | apply And.intro)) (by repeat' (first | exact trivial | exact rfl | apply And.intro)) ?_
                      rintro _ _ (⟨q2, rfl, rfl⟩ | ⟨q2, rfl, rfl⟩)
                      · exact absurd q2 q
                      · conv => whnf
                        (refine OutG.of [some 0, some 1, some 2, some 3, some 4, some 5, some 6, some 7, some 8, none, none] (.bool true) _ (by rfl) ⟨R, (a + 1 + 1 + 1 + 1 + 1 + 1), rfl, h.mono (by omega) (by omega), fun _ => Int.le_refl _, by omega, by omega, (.inl rfl)⟩ ?_; (conv => whnf); (repeat (first | exact trivial | (refine ⟨rfl, ?_⟩; (conv => whnf)) | (refine ⟨(by simp), ?_⟩; (conv => whnf)))); done)
                  · simp only [decide_eq_true_eq, decide_eq_false_iff_not] at hh246
                    conv => whnf
                    refine (next_s _ _ _ (by first | omega | assumption | decide | simp) (by first | omega | assumption | decide | simp) (by first | omega | assumption | decide | simp)).call [0] (by decide) (And.intro rfl trivial) (And.intro rfl trivial) ?_
                    rintro _ _ ⟨rfl, rfl⟩
                    conv => whnf
                    refine (dropR_s h (by omega) (by omega) _ _).call [1, 2, 3, 4, 5] (by rfl) (by repeat' (first | exact trivial | exact rfl | apply And.intro)) (by repeat' (first | exact trivial | exact rfl | apply And.intro)) ?_
                    rintro _ _ ⟨rfl, rfl⟩
                    conv => whnf
                    refine (rdropR_s h (by omega) _ _).call [6, 7, 8] (by rfl) (by repeat' (first | exact trivial | exact rfl | apply And.intro)) (by repeat' (first | exact trivial | exact rfl | apply And.intro)) ?_
                    rintro _ _ ⟨rfl, rfl⟩
                    conv => whnf
                    (refine OutG.of [some 0, some 1, some 2, some 3, some 4, some 5, some 6, some 7, some 8, none, none] (.bool true) _ (by rfl) ⟨⟨drpP R.P (icL.getD (nxt ls (a + 1 + 1 + 1 + 1) 2).toNat 0) (nxt ls (a + 1 + 1 + 1 + 1 + 1 + 1) 6), R.D, R.r⟩, (a + 1 + 1 + 1 + 1 + 1 + 1 + 1), rfl, (ir_drp h _ _).1.mono (by omega) (by omega), fun _ => Int.le_refl _, by omega, by omega, (.inl rfl)⟩ ?_; (conv => whnf); (repeat (first | exact trivial | (refine ⟨rfl, ?_⟩; (conv => whnf)) | (refine ⟨(by simp), ?_⟩; (conv => whnf)))); done)
  · simp only [decide_eq_true_eq, decide_eq_false_iff_not] at hh10
    conv => whnf
    refine (next_s _ _ _ (by first | omega | assumption | decide | simp) (by first | omega | assumption | decide | simp) (by first | omega | assumption | decide | simp)).call [0] (by decide) (And.intro rfl trivial) (And.intro rfl trivial) ?_
    rintro _ _ ⟨rfl, rfl⟩
    conv => whnf
    refine ⟨fun hh287 => ?_, fun hh287 => ?_⟩
    · simp only [decide_eq_true_eq, decide_eq_false_iff_not] at hh287
      conv => whnf
      refine (length_s _ _ (by first | omega | assumption | decide | simp) (by first | omega | assumption | decide | simp)).call [0] (by decide) trivial (And.intro rfl trivial) ?_
      rintro _ _ ⟨rfl, rfl⟩
      conv => whnf
      refine (next_s _ _ _ (by first | omega | assumption | decide | simp) (by first | omega | assumption | decide | simp) (by first | omega | assumption | decide | simp)).call [0] (by decide) (And.intro rfl trivial) (And.intro rfl trivial) ?_
      rintro _ _ ⟨rfl, rfl⟩
      conv => whnf
      refine ⟨fun hh308 => ?_, fun hh308 => ?_⟩
      · simp only [decide_eq_true_eq, decide_eq_false_iff_not] at hh308
        conv => whnf
        refine (next_s _ _ _ (by first | omega | assumption | decide | simp) (by first | omega | assumption | decide | simp) (by first | omega | assumption | decide | simp)).call [0] (by decide) (And.intro rfl trivial) (And.intro rfl trivial) ?_
        rintro _ _ ⟨rfl, rfl⟩
        conv => whnf
        refine ⟨by (exact ⟨nxt_lo _ _ _, nxt_hi _ _ _ (by omega)⟩), ?_⟩
        conv => whnf
        (refine ⟨_, num_get (l := idL) (nxt_lo _ _ _) (nxt_hi _ _ _ (by omega)), ?_⟩)
        conv => whnf
        refine (acceptR_s h (by omega) (by omega) _ _ (fin1 ls a)).call [1, 2, 3, 4, 5, 12] (by rfl) (by repeat' (first | exact trivial | exact rfl | apply And.intro)) (by repeat' (first | exact trivial | exact rfl | apply And.intro)) ?_
        rintro _ _ (⟨q, rfl, rfl⟩ | ⟨q, rfl, rfl⟩)
        · conv => whnf
          refine (raccR_s h (by omega) _ _ (fin1 ls a)).call [6, 7, 8, 13] (by rfl) (by repeat' (first | exact trivial | exact rfl | apply And.intro)) (by repeat' (first | exact trivial | exact rfl | apply And.intro)) ?_
          rintro _ _ (⟨q2, rfl, rfl⟩ | ⟨q2, rfl, rfl⟩)
          · obtain ⟨i1, _, _⟩ := ir_acc h q
            conv => whnf
            refine both_t (by simp) ?_
            conv => whnf
            (refine OutG.of [some 0, some 1, some 2, some 3, some 4, some 5, some 6, some 7, some 8, some 12, some 13] (.bool true) _ (by rfl) ⟨⟨R.P ++ [_], R.D, R.r⟩, (a + 1 + 1 + 1 + 1 + 1 + 1 + 1), rfl, i1.mono (by omega) (by omega), fun _ => Int.le_refl _, by omega, by omega, (.inr (.inl rfl))⟩ ?_; (conv => whnf); (repeat (first | exact trivial | (refine ⟨rfl, ?_⟩; (conv => whnf)) | (refine ⟨(by simp), ?_⟩; (conv => whnf)))); done)
          · exact absurd q q2
        · conv => whnf
          refine (raccR_s h (by omega) _ _ (fin1 ls a)).call [6, 7, 8, 13] (by rfl) (by repeat' (first | exact trivial | exact rfl | apply And.intro)) (by repeat' (first | exact trivial | exact rfl | apply And.intro)) ?_
          rintro _ _ (⟨q2, rfl, rfl⟩ | ⟨q2, rfl, rfl⟩)
          · exact absurd q2 q
          · conv => whnf
            refine both_t rfl ?_
            conv => whnf
            (refine OutG.of [some 0, some 1, some 2, some 3, some 4, some 5, some 6, some 7, some 8, none, none] (.bool true) _ (by rfl) ⟨R, (a + 1 + 1 + 1 + 1 + 1 + 1 + 1), rfl, h.mono (by omega) (by omega), fun _ => Int.le_refl _, by omega, by omega, (.inl rfl)⟩ ?_; (conv => whnf); (repeat (first | exact trivial | (refine ⟨rfl, ?_⟩; (conv => whnf)) | (refine ⟨(by simp), ?_⟩; (conv => whnf)))); done)
      · simp only [decide_eq_true_eq, decide_eq_false_iff_not] at hh308
        conv => whnf
        refine (acceptR_s h (by omega) (by omega) _ _ (fin1 ls a)).call [1, 2, 3, 4, 5, 11] (by rfl) (by repeat' (first | exact trivial | exact rfl | apply And.intro)) (by repeat' (first | exact trivial | exact rfl | apply And.intro)) ?_
        rintro _ _ (⟨q, rfl, rfl⟩ | ⟨q, rfl, rfl⟩)
        · conv => whnf
          refine (raccR_s h (by omega) _ _ (fin1 ls a)).call [6, 7, 8, 12] (by rfl) (by repeat' (first | exact trivial | exact rfl | apply And.intro)) (by repeat' (first | exact trivial | exact rfl | apply And.intro)) ?_
          rintro _ _ (⟨q2, rfl, rfl⟩ | ⟨q2, rfl, rfl⟩)
          · obtain ⟨i1, _, _⟩ := ir_acc h q
            conv => whnf
            refine both_t (by simp) ?_
            conv => whnf
            (refine OutG.of [some 0, some 1, some 2, some 3, some 4, some 5, some 6, some 7, some 8, some 11, some 12] (.bool true) _ (by rfl) ⟨⟨R.P ++ [_], R.D, R.r⟩, (a + 1 + 1 + 1 + 1 + 1 + 1), rfl, i1.mono (by omega) (by omega), fun _ => Int.le_refl _, by omega, by omega, (.inr (.inl rfl))⟩ ?_; (conv => whnf); (repeat (first | exact trivial | (refine ⟨rfl, ?_⟩; (conv => whnf)) | (refine ⟨(by simp), ?_⟩; (conv => whnf)))); done)
          · exact absurd q q2
        · conv => whnf
          refine (raccR_s h (by omega) _ _ (fin1 ls a)).call [6, 7, 8, 12] (by rfl) (by repeat' (first | exact trivial | exact rfl | apply And.intro)) (by repeat' (first | exact trivial | exact rfl | apply And.intro)) ?_
          rintro _ _ (⟨q2, rfl, rfl⟩ | ⟨q2, rfl, rfl⟩)
          · exact absurd q2 q
          · conv => whnf
            refine both_t rfl ?_
            conv => whnf
            (refine OutG.of [some 0, some 1, some 2, some 3, some 4, some 5, some 6, some 7, some 8, none, none] (.bool true) _ (by rfl) ⟨R, (a + 1 + 1 + 1 + 1 + 1 + 1), rfl, h.mono (by omega) (by omega), fun _ => Int.le_refl _, by omega, by omega, (.inl rfl)⟩ ?_; (conv => whnf); (repeat (first | exact trivial | (refine ⟨rfl, ?_⟩; (conv => whnf)) | (refine ⟨(by simp), ?_⟩; (conv => whnf)))); done)
    · simp only [decide_eq_true_eq, decide_eq_false_iff_not] at hh287
      conv => whnf
      refine ⟨fun hh340 => ?_, fun hh340 => ?_⟩
      · simp only [decide_eq_true_eq, decide_eq_false_iff_not] at hh340
        conv => whnf
        refine (length_s _ _ (by first | omega | assumption | decide | simp) (by first | omega | assumption | decide | simp)).call [0] (by decide) trivial (And.intro rfl trivial) ?_
        rintro _ _ ⟨rfl, rfl⟩
        conv => whnf
        refine (next_s _ _ _ (by first | omega | assumption | decide | simp) (by first | omega | assumption | decide | simp) (by first | omega | assumption | decide | simp)).call [0] (by decide) (And.intro rfl trivial) (And.intro rfl trivial) ?_
        rintro _ _ ⟨rfl, rfl⟩
        conv => whnf
        refine ⟨fun hh361 => ?_, fun hh361 => ?_⟩
        · simp only [decide_eq_true_eq, decide_eq_false_iff_not] at hh361
          conv => whnf
          refine (next_s _ _ _ (by first | omega | assumption | decide | simp) (by first | omega | assumption | decide | simp) (by first | omega | assumption | decide | simp)).call [0] (by decide) (And.intro rfl trivial) (And.intro rfl trivial) ?_
          rintro _ _ ⟨rfl, rfl⟩
          conv => whnf
          refine ⟨by (exact ⟨nxt_lo _ _ _, nxt_hi _ _ _ (by omega)⟩), ?_⟩
          conv => whnf
          (refine ⟨_, num_get (l := idL) (nxt_lo _ _ _) (nxt_hi _ _ _ (by omega)), ?_⟩)
          conv => whnf
          refine (acceptR_s h (by omega) (by omega) _ _ (fin1 ls a)).call [1, 2, 3, 4, 5, 12] (by rfl) (by repeat' (first | exact trivial | exact rfl | apply And.intro)) (by repeat' (first | exact trivial | exact rfl | apply And.intro)) ?_
          rintro _ _ (⟨q, rfl, rfl⟩ | ⟨q, rfl, rfl⟩)
          · conv => whnf
            refine (raccR_s h (by omega) _ _ (fin1 ls a)).call [6, 7, 8, 13] (by rfl) (by repeat' (first | exact trivial | exact rfl | apply And.intro)) (by repeat' (first | exact trivial | exact rfl | apply And.intro)) ?_
            rintro _ _ (⟨q2, rfl, rfl⟩ | ⟨q2, rfl, rfl⟩)
            · obtain ⟨i1, _, _⟩ := ir_acc h q
              conv => whnf
              refine both_t (by simp) ?_
              conv => whnf
              (refine OutG.of [some 0, some 1, some 2, some 3, some 4, some 5, some 6, some 7, some 8, some 12, some 13] (.bool true) _ (by rfl) ⟨⟨R.P ++ [_], R.D, R.r⟩, (a + 1 + 1 + 1 + 1 + 1 + 1 + 1), rfl, i1.mono (by omega) (by omega), fun _ => Int.le_refl _, by omega, by omega, (.inr (.inl rfl))⟩ ?_; (conv => whnf); (repeat (first | exact trivial | (refine ⟨rfl, ?_⟩; (conv => whnf)) | (refine ⟨(by simp), ?_⟩; (conv => whnf)))); done)
            · exact absurd q q2
          · conv => whnf
            refine (raccR_s h (by omega) _ _ (fin1 ls a)).call [6, 7, 8, 13] (by rfl) (by repeat' (first | exact trivial | exact rfl | apply And.intro)) (by repeat' (first | exact trivial | exact rfl | apply And.intro)) ?_
            rintro _ _ (⟨q2, rfl, rfl⟩ | ⟨q2, rfl, rfl⟩)
            · exact absurd q2 q
            · conv => whnf
              refine both_t rfl ?_
              conv => whnf
              (refine OutG.of [some 0, some 1, some 2, some 3, some 4, some 5, some 6, some 7, some 8, none, none] (.bool true) _ (by rfl) ⟨R, (a + 1 + 1 + 1 + 1 + 1 + 1 + 1), rfl, h.mono (by omega) (by omega), fun _ => Int.le_refl _, by omega, by omega, (.inl rfl)⟩ ?_; (conv => whnf); (repeat (first | exact trivial | (refine ⟨rfl, ?_⟩; (conv => whnf)) | (refine ⟨(by simp), ?_⟩; (conv => whnf)))); done)
        · simp only [decide_eq_true_eq, decide_eq_false_iff_not] at hh361
          conv => whnf
          refine (acceptR_s h (by omega) (by omega) _ _ (fin1 ls a)).call [1, 2, 3, 4, 5, 11] (by rfl) (by repeat' (first | exact trivial | exact rfl | apply And.intro)) (by repeat' (first | exact trivial | exact rfl | apply And.intro)) ?_
          rintro _ _ (⟨q, rfl, rfl⟩ | ⟨q, rfl, rfl⟩)
          · conv => whnf
            refine (raccR_s h (by omega) _ _ (fin1 ls a)).call [6, 7, 8, 12] (by rfl) (by repeat' (first | exact trivial | exact rfl | apply And.intro)) (by repeat' (first | exact trivial | exact rfl | apply And.intro)) ?_
            rintro _ _ (⟨q2, rfl, rfl⟩ | ⟨q2, rfl, rfl⟩)
            · obtain ⟨i1, _, _⟩ := ir_acc h q
              conv => whnf
              refine both_t (by simp) ?_
              conv => whnf
              (refine OutG.of [some 0, some 1, some 2, some 3, some 4, some 5, some 6, some 7, some 8, some 11, some 12] (.bool true) _ (by rfl) ⟨⟨R.P ++ [_], R.D, R.r⟩, (a + 1 + 1 + 1 + 1 + 1 + 1), rfl, i1.mono (by omega) (by omega), fun _ => Int.le_refl _, by omega, by omega, (.inr (.inl rfl))⟩ ?_; (conv => whnf); (repeat (first | exact trivial | (refine ⟨rfl, ?_⟩; (conv => whnf)) | (refine ⟨(by simp), ?_⟩; (conv => whnf)))); done)
            · exact absurd q q2
          · conv => whnf
            refine (raccR_s h (by omega) _ _ (fin1 ls a)).call [6, 7, 8, 12] (by rfl) (by repeat' (first | exact trivial | exact rfl | apply And.intro)) (by repeat' (first | exact trivial | exact rfl | apply And.intro)) ?_
            rintro _ _ (⟨q2, rfl, rfl⟩ | ⟨q2, rfl, rfl⟩)
            · exact absurd q2 q
            · conv => whnf
              refine both_t rfl ?_
              conv => whnf
              (refine OutG.of [some 0, some 1, some 2, some 3, some 4, some 5, some 6, some 7, some 8, none, none] (.bool true) _ (by rfl) ⟨R, (a + 1 + 1 + 1 + 1 + 1 + 1), rfl, h.mono (by omega) (by omega), fun _ => Int.le_refl _, by omega, by omega, (.inl rfl)⟩ ?_; (conv => whnf); (repeat (first | exact trivial | (refine ⟨rfl, ?_⟩; (conv => whnf)) | (refine ⟨(by simp), ?_⟩; (conv => whnf)))); done)
      · simp only [decide_eq_true_eq, decide_eq_false_iff_not] at hh340
        conv => whnf
        refine ⟨fun hh393 => ?_, fun hh393 => ?_⟩
        · simp only [decide_eq_true_eq, decide_eq_false_iff_not] at hh393
          conv => whnf
          refine (length_s _ _ (by first | omega | assumption | decide | simp) (by first | omega | assumption | decide | simp)).call [0] (by decide) trivial (And.intro rfl trivial) ?_
          rintro _ _ ⟨rfl, rfl⟩
          conv => whnf
          refine (next_s _ _ _ (by first | omega | assumption | decide | simp) (by first | omega | assumption | decide | simp) (by first | omega | assumption | decide | simp)).call [0] (by decide) (And.intro rfl trivial) (And.intro rfl trivial) ?_
          rintro _ _ ⟨rfl, rfl⟩
          conv => whnf
          refine ⟨fun hh414 => ?_, fun hh414 => ?_⟩
          · simp only [decide_eq_true_eq, decide_eq_false_iff_not] at hh414
            conv => whnf
            refine (next_s _ _ _ (by first | omega | assumption | decide | simp) (by first | omega | assumption | decide | simp) (by first | omega | assumption | decide | simp)).call [0] (by decide) (And.intro rfl trivial) (And.intro rfl trivial) ?_
            rintro _ _ ⟨rfl, rfl⟩
            conv => whnf
            refine ⟨by (exact ⟨nxt_lo _ _ _, nxt_hi _ _ _ (by omega)⟩), ?_⟩
            conv => whnf
            (refine ⟨_, num_get (l := idL) (nxt_lo _ _ _) (nxt_hi _ _ _ (by omega)), ?_⟩)
            conv => whnf
            refine (acceptR_s h (by omega) (by omega) _ _ (fin1 ls a)).call [1, 2, 3, 4, 5, 12] (by rfl) (by repeat' (first | exact trivial | exact rfl | apply And.intro)) (by repeat' (first | exact trivial | exact rfl | apply And.intro)) ?_
            rintro _ _ (⟨q, rfl, rfl⟩ | ⟨q, rfl, rfl⟩)
            · conv => whnf
              refine (raccR_s h (by omega) _ _ (fin1 ls a)).call [6, 7, 8, 13] (by rfl) (by repeat' (first | exact trivial | exact rfl | apply And.intro)) (by repeat' (first | exact trivial | exact rfl | apply And.intro)) ?_
              rintro _ _ (⟨q2, rfl, rfl⟩ | ⟨q2, rfl, rfl⟩)
              · obtain ⟨i1, _, _⟩ := ir_acc h q
                conv => whnf
                refine both_t (by simp) ?_
                conv => whnf
                (refine OutG.of [some 0, some 1, some 2, some 3, some 4, some 5, some 6, some 7, some 8, some 12, some 13] (.bool true) _ (by rfl) ⟨⟨R.P ++ [_], R.D, R.r⟩, (a + 1 + 1 + 1 + 1 + 1 + 1 + 1), rfl, i1.mono (by omega) (by omega), fun _ => Int.le_refl _, by omega, by omega, (.inr (.inl rfl))⟩ ?_; (conv => whnf); (repeat (first | exact trivial | (refine ⟨rfl, ?_⟩; (conv => whnf)) | (refine ⟨(by simp), ?_⟩; (conv => whnf)))); done)
              · exact absurd q q2
            · conv => whnf
              refine (raccR_s h (by omega) _ _ (fin1 ls a)).call [6, 7, 8, 13] (by rfl) (by repeat' (first | exact trivial | exact rfl | apply And.intro)) (by repeat' (first | exact trivial | exact rfl | apply And.intro)) ?_
              rintro _ _ (⟨q2, rfl, rfl⟩ | ⟨q2, rfl, rfl⟩)
              · exact absurd q2 q
              · conv => whnf
                refine both_t rfl ?_
                conv => whnf
                (refine OutG.of [some 0, some 1, some 2, some 3, some 4, some 5, some 6, some 7, some 8, none, none] (.bool true) _ (by rfl) ⟨R, (a + 1 + 1 + 1 + 1 + 1 + 1 + 1), rfl, h.mono (by omega) (by omega), fun _ => Int.le_refl _, by omega, by omega, (.inl rfl)⟩ ?_; (conv => whnf); (repeat (first | exact trivial | (refine ⟨rfl, ?_⟩; (conv => whnf)) | (refine ⟨(by simp), ?_⟩; (conv => whnf)))); done)
          · simp only [decide_eq_true_eq, decide_eq_false_iff_not] at hh414
            conv => whnf
            refine (acceptR_s h (by omega) (by omega) _ _ (fin1 ls a)).call [1, 2, 3, 4, 5, 11] (by rfl) (by repeat' (first | exact trivial | exact rfl | apply And.intro)) (by repeat' (first | exact trivial | exact rfl | apply And.intro)) ?_
            rintro _ _ (⟨q, rfl, rfl⟩ | ⟨q, rfl, rfl⟩)
            · conv => whnf
              refine (raccR_s h (by omega) _ _ (fin1 ls a)).call [6, 7, 8, 12] (by rfl) (by repeat' (first | exact trivial | exact rfl | apply And.intro)) (by repeat' (first | exact trivial | exact rfl | apply And.intro)) ?_
              rintro _ _ (⟨q2, rfl, rfl⟩ | ⟨q2, rfl, rfl⟩)
              · obtain ⟨i1, _, _⟩ := ir_acc h q
                conv => whnf
                refine both_t (by simp) ?_
                conv => whnf
                (refine OutG.of [some 0, some 1, some 2, some 3, some 4, some 5, some 6, some 7, some 8, some 11, some 12] (.bool true) _ (by rfl) ⟨⟨R.P ++ [_], R.D, R.r⟩, (a + 1 + 1 + 1 + 1 + 1 + 1), rfl, i1.mono (by omega) (by omega), fun _ => Int.le_refl _, by omega, by omega, (.inr (.inl rfl))⟩ ?_; (conv => whnf); (repeat (first | exact trivial | (refine ⟨rfl, ?_⟩; (conv => whnf)) | (refine ⟨(by simp), ?_⟩; (conv => whnf)))); done)
              · exact absurd q q2
            · conv => whnf
              refine (raccR_s h (by omega) _ _ (fin1 ls a)).call [6, 7, 8, 12] (by rfl) (by repeat' (first | exact trivial | exact rfl | apply And.intro)) (by repeat' (first | exact trivial | exact rfl | apply And.intro)) ?_
              rintro _ _ (⟨q2, rfl, rfl⟩ | ⟨q2, rfl, rfl⟩)
              · exact absurd q2 q
              · conv => whnf
                refine both_t rfl ?_
                conv => whnf
                (refine OutG.of [some 0, some 1, some 2, some 3, some 4, some 5, some 6, some 7, some 8, none, none] (.bool true) _ (by rfl) ⟨R, (a + 1 + 1 + 1 + 1 + 1 + 1), rfl, h.mono (by omega) (by omega), fun _ => Int.le_refl _, by omega, by omega, (.inl rfl)⟩ ?_; (conv => whnf); (repeat (first | exact trivial | (refine ⟨rfl, ?_⟩; (conv => whnf)) | (refine ⟨(by simp), ?_⟩; (conv => whnf)))); done)
        · simp only [decide_eq_true_eq, decide_eq_false_iff_not] at hh393
          conv => whnf
          refine ⟨fun hh446 => ?_, fun hh446 => ?_⟩
          · simp only [decide_eq_true_eq, decide_eq_false_iff_not] at hh446
            conv => whnf
            refine (refuseR_s h (by omega) (by omega) _ (fin1 ls a)).call [1, 2, 3, 4, 5] (by rfl) (by repeat' (first | exact trivial | exact rfl | apply And.intro)) (by repeat' (first | exact trivial | exact rfl | apply And.intro)) ?_
            rintro _ _ ⟨rfl, rfl⟩
            conv => whnf
            refine (rrefR_s h (by omega) _ (fin1 ls a)).call [6, 7, 8] (by rfl) (by repeat' (first | exact trivial | exact rfl | apply And.intro)) (by repeat' (first | exact trivial | exact rfl | apply And.intro)) ?_
            rintro _ _ ⟨rfl, rfl⟩
            have i1 := (ir_ref (f := (nxt ls a 3)) h (fin1 ls a)).1
            conv => whnf
            (refine OutG.of [some 0, some 1, some 2, some 3, some 4, some 5, some 6, some 7, some 8, none, none] (.bool true) _ (by rfl) ⟨⟨R.P, R.D, upR R.r _⟩, (a + 1 + 1 + 1 + 1), rfl, i1.mono (by omega) (by omega), upR_le _ _, by omega, by omega, (.inl rfl)⟩ ?_; (conv => whnf); (repeat (first | exact trivial | (refine ⟨rfl, ?_⟩; (conv => whnf)) | (refine ⟨(by simp), ?_⟩; (conv => whnf)))); done)
          · simp only [decide_eq_true_eq, decide_eq_false_iff_not] at hh446
            conv => whnf
            refine ⟨fun hh457 => ?_, fun hh457 => ?_⟩
            · simp only [decide_eq_true_eq, decide_eq_false_iff_not] at hh457
              conv => whnf
              refine (sendR_s h (by omega) _).call [1, 2, 3, 4, 5] (by rfl) (by repeat' (first | exact trivial | exact rfl | apply And.intro)) (by repeat' (first | exact trivial | exact rfl | apply And.intro)) ?_
              rintro _ _ ⟨rfl, rfl⟩
              conv => whnf
              refine (rsendR_s h (by omega) _).call [6, 7, 8] (by rfl) (by repeat' (first | exact trivial | exact rfl | apply And.intro)) (by repeat' (first | exact trivial | exact rfl | apply And.intro)) ?_
              rintro _ _ ⟨rfl, rfl⟩
              conv => whnf
              (refine OutG.of [some 0, some 1, some 2, some 3, some 4, some 5, some 6, some 7, some 8, none, none] (.bool true) _ (by rfl) ⟨⟨sndP R.P (1 + nxt ls (a + 1) ((R.P.length + 2 : Nat) : Int)), R.D, R.r⟩, (a + 1 + 1 + 1 + 1), rfl, (ir_snd h _).1.mono (by omega) (by omega), fun _ => Int.le_refl _, by omega, by omega, (.inl rfl)⟩ ?_; (conv => whnf); (repeat (first | exact trivial | (refine ⟨rfl, ?_⟩; (conv => whnf)) | (refine ⟨(by simp), ?_⟩; (conv => whnf)))); done)
            · simp only [decide_eq_true_eq, decide_eq_false_iff_not] at hh457
              conv => whnf
              refine ⟨fun hh468 => ?_, fun hh468 => ?_⟩
              · simp only [decide_eq_true_eq, decide_eq_false_iff_not] at hh468
                conv => whnf
                refine (sendR_s h (by omega) _).call [1, 2, 3, 4, 5] (by rfl) (by repeat' (first | exact trivial | exact rfl | apply And.intro)) (by repeat' (first | exact trivial | exact rfl | apply And.intro)) ?_
                rintro _ _ ⟨rfl, rfl⟩
                conv => whnf
                refine (rsendR_s h (by omega) _).call [6, 7, 8] (by rfl) (by repeat' (first | exact trivial | exact rfl | apply And.intro)) (by repeat' (first | exact trivial | exact rfl | apply And.intro)) ?_
                rintro _ _ ⟨rfl, rfl⟩
                conv => whnf
                (refine OutG.of [some 0, some 1, some 2, some 3, some 4, some 5, some 6, some 7, some 8, none, none] (.bool true) _ (by rfl) ⟨⟨sndP R.P (1 + nxt ls (a + 1) ((R.P.length + 2 : Nat) : Int)), R.D, R.r⟩, (a + 1 + 1 + 1 + 1), rfl, (ir_snd h _).1.mono (by omega) (by omega), fun _ => Int.le_refl _, by omega, by omega, (.inl rfl)⟩ ?_; (conv => whnf); (repeat (first | exact trivial | (refine ⟨rfl, ?_⟩; (conv => whnf)) | (refine ⟨(by simp), ?_⟩; (conv => whnf)))); done)
              · simp only [decide_eq_true_eq, decide_eq_false_iff_not] at hh468
                conv => whnf
                refine ⟨fun hh479 => ?_, fun hh479 => ?_⟩
                · simp only [decide_eq_true_eq, decide_eq_false_iff_not] at hh479
                  conv => whnf
                  refine (deliverR_s h (by omega) (by omega) _).call [1, 2, 3, 4, 5, 11] (by rfl) (by repeat' (first | exact trivial | exact rfl | apply And.intro)) (by repeat' (first | exact trivial | exact rfl | apply And.intro)) ?_
                  rintro _ _ (⟨q, rfl, hs⟩ | ⟨q, rfl, rfl⟩)
                  · rcases hs with rfl | rfl | rfl
                    · conv => whnf
                      refine (rdelR_s h (by omega) _).call [6, 7, 8, 12] (by rfl) (by repeat' (first | exact trivial | exact rfl | apply And.intro)) (by repeat' (first | exact trivial | exact rfl | apply And.intro)) ?_
                      rintro _ _ (⟨q2, rfl, rfl⟩ | ⟨q2, rfl, rfl⟩)
                      · conv => whnf
                        (refine OutG.of [some 0, some 1, some 2, some 3, some 4, some 5, some 6, some 7, some 8, some 11, some 12] (.bool true) _ (by rfl) ⟨⟨dlP R _, R.D ++ [_], R.r⟩, (a + 1 + 1 + 1 + 1), rfl, (ir_del h q).1.mono (by omega) (by omega), fun _ => Int.le_refl _, by omega, by omega, (.inr (.inr (.inl rfl)))⟩ ?_; (conv => whnf); (repeat (first | exact trivial | (refine ⟨rfl, ?_⟩; (conv => whnf)) | (refine ⟨(by simp), ?_⟩; (conv => whnf)))); done)
                      · exact absurd q q2
                    · conv => whnf
                      refine (rdelR_s h (by omega) _).call [6, 7, 8, 12] (by rfl) (by repeat' (first | exact trivial | exact rfl | apply And.intro)) (by repeat' (first | exact trivial | exact rfl | apply And.intro)) ?_
                      rintro _ _ (⟨q2, rfl, rfl⟩ | ⟨q2, rfl, rfl⟩)
                      · conv => whnf
                        (refine OutG.of [some 0, some 1, some 2, some 3, some 4, some 5, some 6, some 7, some 8, some 11, some 12] (.bool true) _ (by rfl) ⟨⟨dlP R _, R.D ++ [_], R.r⟩, (a + 1 + 1 + 1 + 1), rfl, (ir_del h q).1.mono (by omega) (by omega), fun _ => Int.le_refl _, by omega, by omega, (.inr (.inr (.inr (.inl rfl))))⟩ ?_; (conv => whnf); (repeat (first | exact trivial | (refine ⟨rfl, ?_⟩; (conv => whnf)) | (refine ⟨(by simp), ?_⟩; (conv => whnf)))); done)
                      · exact absurd q q2
                    · conv => whnf
                      refine (rdelR_s h (by omega) _).call [6, 7, 8, 12] (by rfl) (by repeat' (first | exact trivial | exact rfl | apply And.intro)) (by repeat' (first | exact trivial | exact rfl | apply And.intro)) ?_
                      rintro _ _ (⟨q2, rfl, rfl⟩ | ⟨q2, rfl, rfl⟩)
                      · conv => whnf
                        (refine OutG.of [some 0, some 1, some 2, some 3, some 4, some 5, some 6, some 7, some 8, some 11, some 12] (.bool true) _ (by rfl) ⟨⟨dlP R _, R.D ++ [_], R.r⟩, (a + 1 + 1 + 1 + 1), rfl, (ir_del h q).1.mono (by omega) (by omega), fun _ => Int.le_refl _, by omega, by omega, (.inr (.inr (.inr (.inr rfl))))⟩ ?_; (conv => whnf); (repeat (first | exact trivial | (refine ⟨rfl, ?_⟩; (conv => whnf)) | (refine ⟨(by simp), ?_⟩; (conv => whnf)))); done)
                      · exact absurd q q2
                  · conv => whnf
                    refine (rdelR_s h (by omega) _).call [6, 7, 8, 12] (by rfl) (by repeat' (first | exact trivial | exact rfl | apply And.intro)) (by repeat' (first | exact trivial | exact rfl | apply And.intro)) ?_
                    rintro _ _ (⟨q2, rfl, rfl⟩ | ⟨q2, rfl, rfl⟩)
                    · exact absurd q2 q
                    · conv => whnf
                      (refine OutG.of [some 0, some 1, some 2, some 3, some 4, some 5, some 6, some 7, some 8, none, none] (.bool true) _ (by rfl) ⟨R, (a + 1 + 1 + 1 + 1), rfl, h.mono (by omega) (by omega), fun _ => Int.le_refl _, by omega, by omega, (.inl rfl)⟩ ?_; (conv => whnf); (repeat (first | exact trivial | (refine ⟨rfl, ?_⟩; (conv => whnf)) | (refine ⟨(by simp), ?_⟩; (conv => whnf)))); done)
                · simp only [decide_eq_true_eq, decide_eq_false_iff_not] at hh479
                  conv => whnf
                  refine ⟨fun hh490 => ?_, fun hh490 => ?_⟩
                  · simp only [decide_eq_true_eq, decide_eq_false_iff_not] at hh490
                    conv => whnf
                    refine (deliverR_s h (by omega) (by omega) _).call [1, 2, 3, 4, 5, 11] (by rfl) (by repeat' (first | exact trivial | exact rfl | apply And.intro)) (by repeat' (first | exact trivial | exact rfl | apply And.intro)) ?_
                    rintro _ _ (⟨q, rfl, hs⟩ | ⟨q, rfl, rfl⟩)
                    · rcases hs with rfl | rfl | rfl
                      · conv => whnf
                        refine (rdelR_s h (by omega) _).call [6, 7, 8, 12] (by rfl) (by repeat' (first | exact trivial | exact rfl | apply And.intro)) (by repeat' (first | exact trivial | exact rfl | apply And.intro)) ?_
                        rintro _ _ (⟨q2, rfl, rfl⟩ | ⟨q2, rfl, rfl⟩)
                        · conv => whnf
                          (refine OutG.of [some 0, some 1, some 2, some 3, some 4, some 5, some 6, some 7, some 8, some 11, some 12] (.bool true) _ (by rfl) ⟨⟨dlP R _, R.D ++ [_], R.r⟩, (a + 1 + 1 + 1 + 1), rfl, (ir_del h q).1.mono (by omega) (by omega), fun _ => Int.le_refl _, by omega, by omega, (.inr (.inr (.inl rfl)))⟩ ?_; (conv => whnf); (repeat (first | exact trivial | (refine ⟨rfl, ?_⟩; (conv => whnf)) | (refine ⟨(by simp), ?_⟩; (conv => whnf)))); done)
                        · exact absurd q q2
                      · conv => whnf
                        refine (rdelR_s h (by omega) _).call [6, 7, 8, 12] (by rfl) (by repeat' (first | exact trivial | exact rfl | apply And.intro)) (by repeat' (first | exact trivial | exact rfl | apply And.intro)) ?_
                        rintro _ _ (⟨q2, rfl, rfl⟩ | ⟨q2, rfl, rfl⟩)
                        · conv => whnf
                          (refine OutG.of [some 0, some 1, some 2, some 3, some 4, some 5, some 6, some 7, some 8, some 11, some 12] (.bool true) _ (by rfl) ⟨⟨dlP R _, R.D ++ [_], R.r⟩, (a + 1 + 1 + 1 + 1), rfl, (ir_del h q).1.mono (by omega) (by omega), fun _ => Int.le_refl _, by omega, by omega, (.inr (.inr (.inr (.inl rfl))))⟩ ?_; (conv => whnf); (repeat (first | exact trivial | (refine ⟨rfl, ?_⟩; (conv => whnf)) | (refine ⟨(by simp), ?_⟩; (conv => whnf)))); done)
                        · exact absurd q q2
                      · conv => whnf
                        refine (rdelR_s h (by omega) _).call [6, 7, 8, 12] (by rfl) (by repeat' (first | exact trivial | exact rfl | apply And.intro)) (by repeat' (first | exact trivial | exact rfl | apply And.intro)) ?_
                        rintro _ _ (⟨q2, rfl, rfl⟩ | ⟨q2, rfl, rfl⟩)
                        · conv => whnf
                          (refine OutG.of [some 0, some 1, some 2, some 3, some 4, some 5, some 6, some 7, some 8, some 11, some 12] (.bool true) _ (by rfl) ⟨⟨dlP R _, R.D ++ [_], R.r⟩, (a + 1 + 1 + 1 + 1), rfl, (ir_del h q).1.mono (by omega) (by omega), fun _ => Int.le_refl _, by omega, by omega, (.inr (.inr (.inr (.inr rfl))))⟩ ?_; (conv => whnf); (repeat (first | exact trivial | (refine ⟨rfl, ?_⟩; (conv => whnf)) | (refine ⟨(by simp), ?_⟩; (conv => whnf)))); done)
                        · exact absurd q q2
                    · conv => whnf
                      refine (rdelR_s h (by omega) _).call [6, 7, 8, 12] (by rfl) (by repeat' (first | exact trivial | exact rfl | apply And.intro)) (by repeat' (first | exact trivial | exact rfl | apply And.intro)) ?_
                      rintro _ _ (⟨q2, rfl, rfl⟩ | ⟨q2, rfl, rfl⟩)
                      · exact absurd q2 q
                      · conv => whnf
                        (refine OutG.of [some 0, some 1, some 2, some 3, some 4, some 5, some 6, some 7, some 8, none, none] (.bool true) _ (by rfl) ⟨R, (a + 1 + 1 + 1 + 1), rfl, h.mono (by omega) (by omega), fun _ => Int.le_refl _, by omega, by omega, (.inl rfl)⟩ ?_; (conv => whnf); (repeat (first | exact trivial | (refine ⟨rfl, ?_⟩; (conv => whnf)) | (refine ⟨(by simp), ?_⟩; (conv => whnf)))); done)
                  · simp only [decide_eq_true_eq, decide_eq_false_iff_not] at hh490
                    conv => whnf
                    refine (next_s _ _ _ (by first | omega | assumption | decide | simp) (by first | omega | assumption | decide | simp) (by first | omega | assumption | decide | simp)).call [0] (by decide) (And.intro rfl trivial) (And.intro rfl trivial) ?_
                    rintro _ _ ⟨rfl, rfl⟩
                    conv => whnf
                    refine (dropR_s h (by omega) (by omega) _ _).call [1, 2, 3, 4, 5] (by rfl) (by repeat' (first | exact trivial | exact rfl | apply And.intro)) (by repeat' (first | exact trivial | exact rfl | apply And.intro)) ?_
                    rintro _ _ ⟨rfl, rfl⟩
                    conv => whnf
                    refine (rdropR_s h (by omega) _ _).call [6, 7, 8] (by rfl) (by repeat' (first | exact trivial | exact rfl | apply And.intro)) (by repeat' (first | exact trivial | exact rfl | apply And.intro)) ?_
                    rintro _ _ ⟨rfl, rfl⟩
                    conv => whnf
                    (refine OutG.of [some 0, some 1, some 2, some 3, some 4, some 5, some 6, some 7, some 8, none, none] (.bool true) _ (by rfl) ⟨⟨drpP R.P (1 + nxt ls (a + 1) ((R.P.length + 2 : Nat) : Int)) (nxt ls (a + 1 + 1 + 1 + 1) 6), R.D, R.r⟩, (a + 1 + 1 + 1 + 1 + 1), rfl, (ir_drp h _ _).1.mono (by omega) (by omega), fun _ => Int.le_refl _, by omega, by omega, (.inl rfl)⟩ ?_; (conv => whnf); (repeat (first | exact trivial | (refine ⟨rfl, ?_⟩; (conv => whnf)) | (refine ⟨(by simp), ?_⟩; (conv => whnf)))); done)
end Go.Proofs.Ytdommpfnoiemkaa
