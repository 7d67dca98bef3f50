/- Chapter 18: looking at tables that agree; loops that several ways lead to; calls that only look, in regions whose order is drawn. -/
import Derived.Test.YtdommpfnoiemkaaLfI
namespace Go.Proofs.Ytdommpfnoiemkaa
open Go.Sx
set_option linter.unusedSimpArgs false
set_option linter.unusedVariables false
theorem _root_.Go.Sx.LoopG.shift {P : Program} {m : Nat} {c : Code} {F F' : Fr} {h h' : Hp} {K : Post} (hs : Shift m F h F' h') (l : LoopG P m c F' h' K) : LoopG P m c F h K := ⟨.shift hs l.ok⟩
theorem _root_.Go.Sx.LoopG.head {P : Program} {m n : Nat} {c : Code} {F : Fr} {sp : List (Nat × SV)} {h h' : Hp} {K : Post} (l : LoopG P m c (mkFr n sp) h' K) (hs : HeadG m F h n sp h') : LoopG P m c F h K := .shift hs.ok l
/-- A loop that is proved once, where several ways lead to it. -/
theorem once {P : Program} {ι : Type} {m n : Nat} {sp : ι → List (Nat × SV)} {hx : ι → Hp} {p : Prop} {C : Code} {K : Post} (main : (∀ z, LoopG P m C (mkFr n (sp z)) (hx z) K) → p) (inner : ∀ z, LoopG P m C (mkFr n (sp z)) (hx z) K) : p := main inner
theorem _root_.Go.Sx.CallG.toR {P : Program} {f : FuncId} {args' : List SV} {h : Hp} {nid n : Nat} {s : SV} {K : Kop} (hn : h.length = n)
    (hc : CallG P f args' h fun s' H => s' = s ∧ H = h) (hk : K s [] (List.range (n + 1))) : CallD P f args' h nid K :=
  ⟨s, [], List.range (n + 1), hk, ⟨fun w X σ h2 vs hI hr hag => by
    have e2 : h2 = h := by
      have h1 : ∀ i, i ≤ n → h2[i]? = h[i]? := fun i hi => hag i (List.mem_range.2 (by omega))
      have hl : h2.length ≤ n := List.getElem?_eq_none_iff.1 ((h1 n (Nat.le_refl _)).trans (List.getElem?_eq_none (by omega)))
      apply List.ext_getElem?
      intro i
      by_cases hi : i ≤ n
      · exact h1 i hi
      · rw [List.getElem?_eq_none (show h2.length ≤ i by omega), List.getElem?_eq_none (show h.length ≤ i by omega)]
    subst e2
    refine (hc.ok w X σ vs hI hr).mono fun v w' ⟨s', H, σ', ⟨e1, e3⟩, hrep, hI', hS⟩ => ?_
    subst e1; subst e3
    exact ⟨σ', hrep, hI', hS, by rw [hI'.len, hI.len]⟩, by simp⟩⟩
section
variable {n m : Nat} {R : R3}
theorem countR_s (h : IR n m R) (hn : n ≤ 200) (f st : Int) :
    GSpec Try.prog 30 [.ptr 0 0, .int .i64 f, .int .i64 st] (lgR R) fun r ho => r = .int .i64 (cnt R.P f st : Int) ∧ ho = lgR R := count3_s (toL R) (by have := h.pl; show R.P.length ≤ 1000; omega) f st
theorem stateR_s (h : IR n m R) (hn : n ≤ 200) (x : Int) :
    GSpec Try.prog 32 [.ptr 0 0, .int .i64 x] (lgR R) fun r ho => r = .int .i64 (stO R.P x) ∧ ho = lgR R := state3_s (toL R) (by have := h.pl; show R.P.length ≤ 1000; omega) x
theorem reasonR_s (h : IR n m R) (hn : n ≤ 200) (x : Int) :
    GSpec Try.prog 34 [.ptr 0 0, .int .i64 x] (lgR R) fun r ho => r = .int .i64 (whO R.P x) ∧ ho = lgR R := reason3_s (toL R) (by have := h.pl; show R.P.length ≤ 1000; omega) x
theorem rstateR_s (h : IR n m R) (hn : n ≤ 200) (x : Int) :
    GSpec Try.prog 33 [.ptr 0 0, .int .i64 x] (rgH R) fun r ho => r = .int .i64 (stO R.P x) ∧ ho = rgH R := rstate3_s R (by have := h.pl; omega) x
/-- The statistics of flow k. -/
def stV (R : R3) (k : Nat) : SV := .agg [.int .i64 (k : Int), .int .i64 (sumP (gF k) R.P), .int .i64 (sumP (gS k 3) R.P), .int .i64 (sumP (gS k 4) R.P + R.r k), .int .i64 (sumP (gB k) R.P), .int .i64 0]
theorem statsR_s (R : R3) (k : Nat) (hk : k < 3) :
    GSpec Try.prog 29 [.ptr 0 0, .int .i64 (k : Int)] (lgR R) fun r ho => r = stV R k ∧ ho = lgR R :=
  (stats3_s (toL R) (k : Int) (by unfold fOk; omega)).mono' fun s ho ⟨a, b⟩ => ⟨by
    rw [a]
    match k, hk with
    | 0, _ => rfl
    | 1, _ => rfl
    | 2, _ => rfl, b⟩
end
theorem keep_sum (f : Int) : ∀ P : List Pk, stOk P → sumP (gF f) P = (cnt P f 1 : Int) + (cnt P f 2 : Int) + (cnt P f 3 : Int) + (cnt P f 4 : Int)
  | [], _ => by simp [cnt, sumP]
  | q :: P, h => by
    have ih := keep_sum f P fun i hi => h (i + 1) (by simp; omega)
    have h0 : 1 ≤ q.2.2.1 ∧ q.2.2.1 ≤ 4 := h 0 (by simp)
    rw [cnt_sum (by decide), cnt_sum (by decide), cnt_sum (by decide), cnt_sum (by decide)] at ih ⊢
    simp only [sumP]
    rw [ih]
    have : gF f q = gS f 1 q + gS f 2 q + gS f 3 q + gS f 4 q := by
      have h5 : q.2.2.1 = 1 ∨ q.2.2.1 = 2 ∨ q.2.2.1 = 3 ∨ q.2.2.1 = 4 := by omega
      unfold gF gS
      by_cases hf : q.1 = f
      · rcases h5 with e | e | e | e <;> simp [hf, e]
      · simp [hf]
    omega
end Go.Proofs.Ytdommpfnoiemkaa
