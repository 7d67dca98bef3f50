/- Chapter 18: the reference's deliveries. -/
import Derived.Test.YtdommpfnoiemkaaLfE
namespace Go.Proofs.Ytdommpfnoiemkaa
open Go.Sx
set_option linter.unusedSimpArgs false
set_option linter.unusedVariables false
def gtQ (P : List Pk) (x y : Int) : Bool := decide (x < y) && decide ((gp P (y.toNat - 1)).1 = (gp P (x.toNat - 1)).1)
def anyGt (P : List Pk) (D : List Int) (x : Int) : Bool := D.any (gtQ P x)
def rdOk (s : R3) (x : Int) : Prop := inR s.P x ∧ (gp s.P (x.toNat - 1)).2.2.1 = 2 ∧ anyGt s.P s.D x = false
def rdE (s : R3) (x : Int) : Int := if inR s.P x then (if (gp s.P (x.toNat - 1)).2.2.1 = 2 then 1 else 14) else 6
def DOk (P : List Pk) (D : List Int) : Prop := ∀ i, i < D.length → inR P (D.getD i 0)
def rdR (s : R3) (x : Int) (r : SV) (ho : Hp) : Prop :=
  (rdOk s x ∧ r = .int .i64 0 ∧ ho = [rgT 1 3 s.r, rgP (s.P.set (x.toNat - 1) (putS (gp s.P (x.toNat - 1)) 3)), .dead, lgO (s.D ++ [x])]) ∨
  (¬ rdOk s x ∧ r = .int .i64 (rdE s x) ∧ ho = rgH s ++ [.dead])
theorem any_take {P : List Pk} {D : List Int} {x : Int} {i : Nat} (h : i < D.length) : anyGt P (D.take (i + 1)) x = (anyGt P (D.take i) x || gtQ P x (D.getD i 0)) := by
  unfold anyGt
  rw [List.take_add_one, List.any_append, List.getElem?_eq_getElem h]
  simp [List.getD, List.getElem?_eq_getElem h]
theorem any_of {P : List Pk} {D : List Int} {x : Int} {i : Nat} (h : i < D.length) (hq : gtQ P x (D.getD i 0) = true) : anyGt P D x = true := by
  unfold anyGt
  rw [List.any_eq_true]
  exact ⟨D[i], List.getElem_mem h, by simpa [List.getD, List.getElem?_eq_getElem h] using hq⟩
theorem nums_at {D : List Int} {i : Nat} (h : i < D.length) : (nums D)[(i : Int).toNat]? = some [SV.int .i64 (D.getD i 0)] := by
  rw [Int.toNat_natCast, show nums D = D.map fun n => [SV.int .i64 n] from rfl, List.getElem?_map, List.getElem?_eq_getElem h]
  simp [List.getD, List.getElem?_eq_getElem h]
set_option maxHeartbeats 4000000 in
theorem rdeliver3_s (s : R3) (hs : s.P.length ≤ 900) (ht : stOk s.P) (hD : s.D.length ≤ 900) (hd : DOk s.P s.D) (x : Int) :
    GSpec Try.prog 71 [.ptr 0 0, .int .i64 x] (rgH s) (rdR s x) := by
  refine .of_code tab_ok Try.func71 (by rfl) rfl ?_
  have hl : (s.P.map pkE).length = s.P.length := List.length_map ..
  have hs2 : s.P.length ≤ 1000 := by omega
  have hdl : (nums s.D).length = s.D.length := nums_len s.D
  conv => whnf
  refine (rstate3_s s hs2 x).call [0, 1, 2] (by rfl) (by repeat' (first | exact trivial | exact rfl | apply And.intro)) (by repeat' (first | exact trivial | exact rfl | apply And.intro)) ?_
  rintro _ _ ⟨rfl, rfl⟩
  by_cases h : inR s.P x
  · have k := h
    unfold inR at k
    rw [stO_in h]
    have h14 := ht _ (show x.toNat - 1 < s.P.length by omega)
    have hset := pk_set hs2 k.1 k.2 (putS (gp s.P (x.toNat - 1)) 3)
    by_cases hv : (gp s.P (x.toNat - 1)).2.2.1 = 2
    · conv => whnf
      refine both_f (by exact decide_eq_false (by omega)) ?_
      conv => whnf
      refine both_f (by exact decide_eq_false fun q => q hv) ?_
      conv => whnf
      refine LoopG.inv tab_ok 77 (fun i : { i : Nat // i ≤ s.D.length ∧ anyGt s.P (s.D.take i) x = false } => [(0, .ptr 0 0), (1, .int .i64 x), (6, .int .i64 (i.1 : Int))])
        (fun i => rgH s) (fun i => s.D.length - i.1) ⟨0, by omega, by rfl⟩ (.of [some 0, some 1, some 2] (by rfl) ?_) ?_
      · conv => whnf
        repeat (first | exact trivial | (refine ⟨rfl, ?_⟩; (conv => whnf)))
      · intro i
        obtain ⟨hi, hany⟩ := i.2
        conv => whnf
        refine ⟨fun hb => ?_, fun hb => ?_⟩
        · have hb : i.1 < s.D.length := by simp only [decide_eq_true_eq, hdl] at hb; omega
          have hg := nums_at hb
          have hta := any_take (P := s.P) (x := x) hb
          have hdx := hd _ hb
          have hof := fun q => any_of (P := s.P) (x := x) hb q
          obtain ⟨d, ed⟩ : ∃ d, d = s.D.getD i.1 0 := ⟨_, rfl⟩
          rw [← ed] at hg hta hdx hof
          unfold inR at hdx
          by_cases z1 : x < d
          · by_cases z2 : (gp s.P (d.toNat - 1)).1 = (gp s.P (x.toNat - 1)).1
            · have hbad := hof (by unfold gtQ; rw [decide_eq_true z1, decide_eq_true z2]; rfl)
              have e1 : rdE s x = 1 := by unfold rdE; rw [if_pos h, if_pos hv]
              conv => whnf
              refine DrawG.of mixed tab_ok ?_
              conv => whnf
              refine ⟨by omega, ?_⟩
              conv => whnf
              (refine ⟨_, hg, ?_⟩)
              conv => whnf
              refine both_t (by simp; omega) ?_
              conv => whnf
              refine ⟨by omega, ?_⟩
              conv => whnf
              (refine ⟨_, hg, ?_⟩)
              conv => whnf
              refine ⟨by (exact pk_at hs2 hdx.1 hdx.2), ?_⟩
              conv => whnf
              (refine ⟨_, pk_ld hs2 hdx.1 hdx.2, ?_⟩)
              conv => whnf
              refine ⟨by (exact pk_at hs2 k.1 k.2), ?_⟩
              conv => whnf
              (refine ⟨_, pk_ld hs2 k.1 k.2, ?_⟩)
              conv => whnf
              refine ⟨by kernel_rfl, ?_⟩
              conv => whnf
              refine both_t (by (exact decide_eq_true z2)) ?_
              conv => whnf
              refine .same ?_
              conv => whnf
              (refine OutG.of [some 0, some 1, some 2, none] (.int .i64 1) _ (by rfl) (.inr ⟨(fun q => by (rw [q.2.2] at hbad; cases hbad)), by rw [e1], rfl⟩) ?_; (conv => whnf); (repeat (first | exact trivial | (refine ⟨rfl, ?_⟩; (conv => whnf)) | (refine ⟨hset, ?_⟩; (conv => whnf)) | (refine ⟨nums_app, ?_⟩; (conv => whnf)) | (refine ⟨(by simp), ?_⟩; (conv => whnf)))); done)
            · have hn : gtQ s.P x d = false := by unfold gtQ; rw [decide_eq_false z2]; simp
              conv => whnf
              refine DrawG.of mixed tab_ok ?_
              conv => whnf
              refine ⟨by omega, ?_⟩
              conv => whnf
              (refine ⟨_, hg, ?_⟩)
              conv => whnf
              refine both_t (by simp; omega) ?_
              conv => whnf
              refine ⟨by omega, ?_⟩
              conv => whnf
              (refine ⟨_, hg, ?_⟩)
              conv => whnf
              refine ⟨by (exact pk_at hs2 hdx.1 hdx.2), ?_⟩
              conv => whnf
              (refine ⟨_, pk_ld hs2 hdx.1 hdx.2, ?_⟩)
              conv => whnf
              refine ⟨by (exact pk_at hs2 k.1 k.2), ?_⟩
              conv => whnf
              (refine ⟨_, pk_ld hs2 k.1 k.2, ?_⟩)
              conv => whnf
              refine ⟨by kernel_rfl, ?_⟩
              conv => whnf
              refine both_f (by (exact decide_eq_false z2)) ?_
              conv => whnf
              (refine ⟨⟨i.1 + 1, by omega, by rw [hta, hany, hn]; rfl⟩, by show s.D.length - (i.1 + 1) < s.D.length - i.1; omega, .of [some 0, some 1, some 2] (by rfl) ?_⟩; (conv => whnf); (repeat (first | exact trivial | (refine ⟨rfl, ?_⟩; (conv => whnf)) | (refine ⟨(w64 _ (by omega) (by omega)).trans (by simp), ?_⟩; (conv => whnf)))); done)
          · have hn : gtQ s.P x d = false := by unfold gtQ; rw [decide_eq_false z1]; simp
            conv => whnf
            refine DrawG.of mixed tab_ok ?_
            conv => whnf
            refine ⟨by omega, ?_⟩
            conv => whnf
            (refine ⟨_, hg, ?_⟩)
            conv => whnf
            refine both_f (by simp; omega) ?_
            conv => whnf
            refine ⟨by kernel_rfl, ?_⟩
            conv => whnf
            (refine ⟨⟨i.1 + 1, by omega, by rw [hta, hany, hn]; rfl⟩, by show s.D.length - (i.1 + 1) < s.D.length - i.1; omega, .of [some 0, some 1, some 2] (by rfl) ?_⟩; (conv => whnf); (repeat (first | exact trivial | (refine ⟨rfl, ?_⟩; (conv => whnf)) | (refine ⟨(w64 _ (by omega) (by omega)).trans (by simp), ?_⟩; (conv => whnf)))); done)
        · have hb : i.1 = s.D.length := by simp only [decide_eq_false_iff_not, hdl] at hb; omega
          rw [hb, List.take_length] at hany
          conv => whnf
          refine .same ?_
          conv => whnf
          refine ⟨by (exact pk_at hs2 k.1 k.2), ?_⟩
          conv => whnf
          (refine ⟨_, pk_ld hs2 k.1 k.2, ?_⟩)
          conv => whnf
          refine ⟨by simp; omega, ?_⟩
          conv => whnf
          (refine OutG.of [some 0, some 1, some 2, some 4] (.int .i64 0) _ (by rfl) (.inl ⟨⟨h, hv, hany⟩, rfl, rfl⟩) ?_; (conv => whnf); (repeat (first | exact trivial | (refine ⟨rfl, ?_⟩; (conv => whnf)) | (refine ⟨hset, ?_⟩; (conv => whnf)) | (refine ⟨nums_app, ?_⟩; (conv => whnf)) | (refine ⟨(by simp), ?_⟩; (conv => whnf)))); done)
    · have e1 : rdE s x = 14 := by unfold rdE; rw [if_pos h, if_neg hv]
      conv => whnf
      refine both_f (by (exact decide_eq_false (by omega))) ?_
      conv => whnf
      refine both_t (by (exact decide_eq_true hv)) ?_
      conv => whnf
      (refine OutG.of [some 0, some 1, some 2, none] _ _ (by rfl) (.inr ⟨(fun q => hv q.2.1), by rw [e1], rfl⟩) ?_; (conv => whnf); (repeat (first | exact trivial | (refine ⟨rfl, ?_⟩; (conv => whnf)) | (refine ⟨hset, ?_⟩; (conv => whnf)) | (refine ⟨nums_app, ?_⟩; (conv => whnf)) | (refine ⟨(by simp), ?_⟩; (conv => whnf)))); done)
  · have e1 : rdE s x = 6 := if_neg h
    rw [stO_out h]
    conv => whnf
    refine both_t rfl ?_
    conv => whnf
    (refine OutG.of [some 0, some 1, some 2, none] _ _ (by rfl) (.inr ⟨(fun q => h q.1), by rw [e1], rfl⟩) ?_; (conv => whnf); (repeat (first | exact trivial | (refine ⟨rfl, ?_⟩; (conv => whnf)) | (refine ⟨hset, ?_⟩; (conv => whnf)) | (refine ⟨nums_app, ?_⟩; (conv => whnf)) | (refine ⟨(by simp), ?_⟩; (conv => whnf)))); done)
end Go.Proofs.Ytdommpfnoiemkaa
