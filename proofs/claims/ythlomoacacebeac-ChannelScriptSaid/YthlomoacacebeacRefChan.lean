/- Channels of the reference, chapter 15; what they and the program's channels have in common. -/
import Derived.Test.YthlomoacacebeacChan2
import Derived.Test.YthlomoacacebeacCut2
namespace Go.Sx
theorem GSpec.of_cut {P : Program} {T : Tab} (hT : TabOK P T) (n : Nat) {f : FuncId} {fn : Func} {c : Code} {args : List SV} {hin : Hp} {R : SV → Hp → Prop} (hf : P.funcs[f]? = some fn) (hn : (fn.name == "runtime.NumGoroutine") = false)
    (hb : fn.body = some c) (hk : startK args fn.ntmps fun F => cutK P T hin.length n c F hin (retK T fn fun s h' => OutG hin.length s h' R)) : GSpec P f args hin R :=
  ⟨⟨fun w X σ vs hI hr => ((CallG.of_cut hT n hf hn hb hk).ok w X σ vs hI hr).mono fun v w' ⟨s, h', σ', ho, hrep, hI', hS⟩ => by
    obtain ⟨s', h'', hR, hgo⟩ := ho.ok
    obtain ⟨σ'', hI'', hrep', hS'⟩ := hgo w' X σ' v hI' hrep
    have hl : σ.length = hin.length := hI.len
    exact ⟨s', h'', σ'', hR, hrep', hI'', hS.trans (by rw [hl]; exact hS')⟩⟩⟩
end Go.Sx
namespace Go.Proofs.Ythlomoacacebeac
open Go.Sx
set_option linter.unusedSimpArgs false
set_option linter.unusedVariables false
abbrev refB (k a b : Int) (L : List Bool) (an tr : Bool) (r : Int) : Blk := .fix 76 [.int .i64 k, .int .i64 a, .int .i64 b, .rs 1 (bls L), .bool an, .bool tr, .int .i64 r]
theorem rnew_yes (k a b : Int) (h : prOk k a b = true) : GSpec Try.prog 42 [prE k a b] [] fun s ho => s = .tup [.ptr 0 0, .int .i64 0] ∧ ho = [refB k a b [] false false 0] := by
  refine .of_code tab_ok Try.func42 (by rfl) rfl ?_
  conv => whnf
  refine (rpred_s _ _ _).call ?_
  rintro _ rfl
  conv => whnf
  refine both_f (by rw [h]; rfl) ?_
  conv => whnf
  refine OutG.of [some 1] (.tup [.ptr 0 0, .int .i64 0]) [refB k a b [] false false 0] (by rfl) ⟨rfl, rfl⟩ ?_
  conv => whnf
  refine ⟨by rfl, ?_⟩
  conv => whnf
  refine ⟨by rfl, ?_⟩
  conv => whnf
  refine ⟨by rfl, ?_⟩
  conv => whnf
  refine ⟨by rfl, ?_⟩
  conv => whnf
  refine ⟨by rfl, ?_⟩
  conv => whnf
  refine ⟨by rfl, ?_⟩
  conv => whnf
  refine ⟨by rfl, ?_⟩
  conv => whnf
  refine ⟨by rfl, ?_⟩
  conv => whnf
  exact trivial
theorem rannounce_s (k a b : Int) (L : List Bool) (an tr g : Bool) (r : Int) :
    GSpec Try.prog 43 [.ptr 0 0, .bool g] [refB k a b L an tr r] fun s ho => s = .tup [] ∧ ho = [refB k a b L true g r] := by
  refine .of_code tab_ok Try.func43 (by rfl) rfl ?_
  conv => whnf
  refine OutG.of [some 0] (.tup []) [refB k a b L true g r] (by rfl) ⟨rfl, rfl⟩ ?_
  conv => whnf
  refine ⟨by rfl, ?_⟩
  conv => whnf
  refine ⟨by rfl, ?_⟩
  conv => whnf
  refine ⟨by rfl, ?_⟩
  conv => whnf
  refine ⟨by rfl, ?_⟩
  conv => whnf
  refine ⟨by rfl, ?_⟩
  conv => whnf
  refine ⟨by rfl, ?_⟩
  conv => whnf
  refine ⟨by rfl, ?_⟩
  conv => whnf
  exact trivial
/-- How many of m observations from s on were good. -/
def cL (L : List Bool) (s : Nat) : Nat → Int
  | 0 => 0
  | m + 1 => cL L s m + (if L.getD (s + m) false = true then 1 else 0)
theorem cL_rng (L : List Bool) (s : Nat) : ∀ m, 0 ≤ cL L s m ∧ cL L s m ≤ m := by
  intro m
  induction m with
  | zero => simp [cL]
  | succ m ih => simp only [cL]; split <;> omega
theorem cL_front (L : List Bool) (s : Nat) : ∀ m, cL L s (m + 1) = (if L.getD s false = true then 1 else 0) + cL L (s + 1) m := by
  intro m
  induction m with
  | zero => simp [cL]
  | succ m ih =>
    have e : s + (m + 1) = s + 1 + m := by omega
    rw [cL, ih, cL, e]; omega
def rpredV (k a b : Int) (L : List Bool) (an tr : Bool) : Bool :=
  if k = 1 then decide (a ≤ ((b.toNat - L.length : Nat) : Int) + cL L (L.length - b.toNat) (L.length - (L.length - b.toNat))) else if k = 2 ∧ an = true then tr else if L.length = 0 then true else L.getD (L.length - 1) false
theorem cnt_ref {f : Nat → Bool} {L : List Bool} (h : stO f L L.length) : ∀ m : Nat, m ≤ 32 → cntG f L.length m = ((m - L.length : Nat) : Int) + cL L (L.length - m) (L.length - (L.length - m)) := by
  intro m
  induction m with
  | zero => intro _; simp [cntG, cL]
  | succ m ih =>
    intro hm
    have e := ih (by omega)
    rw [cntG, e, lastV_st h (by omega) hm]
    by_cases c : L.length < m + 1
    · rw [if_pos c, if_pos rfl]
      have e1 : L.length - m = 0 := by omega
      have e2 : L.length - (m + 1) = 0 := by omega
      rw [e1, e2]; omega
    · rw [if_neg c]
      have e1 : L.length - (L.length - m) = m := by omega
      have e2 : L.length - (L.length - (m + 1)) = m + 1 := by omega
      have e3 : L.length - m = (L.length - (m + 1)) + 1 := by omega
      rw [e1, e2, cL_front, ← e3]
      have e4 : m - L.length = 0 := by omega
      have e5 : m + 1 - L.length = 0 := by omega
      rw [e4, e5]; omega
theorem pred_same {k a b : Int} (hp : prOk k a b = true) {f : Nat → Bool} {L : List Bool} (h : stO f L L.length) (an tr : Bool) : predV k a b f L.length an tr = rpredV k a b L an tr := by
  obtain ⟨b0, b1⟩ := prOk_b hp
  unfold predV rpredV
  by_cases hk : k = 1
  · rw [if_pos hk, if_pos hk, cnt_ref h _ (by omega)]
  · rw [if_neg hk, if_neg hk]
    by_cases h2 : k = 2 ∧ an = true
    · rw [if_pos h2, if_pos h2]
    · rw [if_neg h2, if_neg h2, lastV_st h (by omega) (by omega)]
      by_cases e : L.length = 0
      · rw [if_pos (by omega), if_pos e]
      · rw [if_neg (by omega), if_neg e]
theorem hist_same {f : Nat → Bool} {L : List Bool} (h : stO f L L.length) : ∀ m : Nat, m ≤ 32 → m ≤ L.length → hsT f L.length m = L.drop (L.length - m) := by
  intro m
  induction m with
  | zero => intro _ _; simp [hsT]
  | succ m ih =>
    intro h1 h2
    have e : L.length - (m + 1) < L.length := by omega
    rw [hsT, ih (by omega) (by omega), lastV_st h (by omega) h1, if_neg (by omega), List.drop_eq_getElem_cons e]
    have e2 : L.length - (m + 1) + 1 = L.length - m := by omega
    rw [e2]
    simp [List.getD, List.getElem?_eq_getElem e]
theorem rpredict_s (k a b : Int) (hp : prOk k a b = true) (L : List Bool) (hn : L.length ≤ 1000000) (an tr : Bool) (r : Int) :
    OSpec Try.prog 45 [.ptr 0 0] [refB k a b L an tr r] fun s ho => s = .bool (rpredV k a b L an tr) ∧ ho = [refB k a b L an tr r] := by
  refine .of_code tab_ok Try.func45 (by rfl) rfl trivial ?_
  obtain ⟨b0, b1⟩ := prOk_b hp
  have hl : (bls L).length = L.length := by simp
  by_cases hk : k = 1
  · have e : rpredV k a b L an tr = decide (a ≤ ((b.toNat - L.length : Nat) : Int) + cL L (L.length - b.toNat) (L.length - (L.length - b.toNat))) := if_pos hk
    rw [e]
    have g0 : (if (0 : Int) > IntKind.i64.wrap (b - ((bls L).length : Int)) then 0 else IntKind.i64.wrap (b - ((bls L).length : Int))) = ((b.toNat - L.length : Nat) : Int) := by rw [hl, w64 _ (by omega) (by omega)]; split <;> omega
    have g1 : (if (0 : Int) > IntKind.i64.wrap (((bls L).length : Int) - b) then 0 else IntKind.i64.wrap (((bls L).length : Int) - b)) = ((L.length - b.toNat : Nat) : Int) := by rw [hl, w64 _ (by omega) (by omega)]; split <;> omega
    conv => whnf
    refine both_t (by exact decide_eq_true hk) ?_
    conv => whnf
    refine LoopG.inv tab_ok 84 (fun m : { m : Nat // m ≤ L.length - (L.length - b.toNat) } => [(0, .ptr 0 0), (3, .int .i64 (L.length : Int)), (4, .int .i64 (((b.toNat - L.length : Nat) : Int) + cL L (L.length - b.toNat) m.1)), (5, .int .i64 ((L.length - b.toNat + m.1 : Nat) : Int))])
      (fun _ => [refB k a b L an tr r]) (fun m => L.length - m.1) ⟨0, by omega⟩ (.of [some 0] (by rfl) ?_) ?_
    · conv => whnf
      refine ⟨by omega, ?_⟩
      conv => whnf
      refine ⟨by (rw [g0]; simp [cL]), ?_⟩
      conv => whnf
      refine ⟨by omega, ?_⟩
      conv => whnf
      refine ⟨by rfl, ?_⟩
      conv => whnf
      refine ⟨by rfl, ?_⟩
      conv => whnf
      refine ⟨by rfl, ?_⟩
      conv => whnf
      refine ⟨by rfl, ?_⟩
      conv => whnf
      refine ⟨by rfl, ?_⟩
      conv => whnf
      refine ⟨by rfl, ?_⟩
      conv => whnf
      refine ⟨by rfl, ?_⟩
      conv => whnf
      exact trivial
    · intro m
      have hm := m.2
      have cr := cL_rng L (L.length - b.toNat) m.1
      conv => whnf
      refine ⟨fun hb => ?_, fun hb => ?_⟩
      · have hb : L.length - b.toNat + m.1 < L.length := by simp only [decide_eq_true_eq] at hb; omega
        have bg := bget hb
        have s1 : L.getD (L.length - b.toNat + m.1) false = true → IntKind.i64.wrap (((b.toNat - L.length : Nat) : Int) + cL L (L.length - b.toNat) m.1 + 1) = ((b.toNat - L.length : Nat) : Int) + cL L (L.length - b.toNat) (m.1 + 1) := fun h => by rw [w64 _ (by omega) (by omega)]; simp only [cL, if_pos h]; omega
        have s2 : L.getD (L.length - b.toNat + m.1) false = false → ((b.toNat - L.length : Nat) : Int) + cL L (L.length - b.toNat) m.1 = ((b.toNat - L.length : Nat) : Int) + cL L (L.length - b.toNat) (m.1 + 1) := fun h => by simp only [cL, h]; simp
        have en : IntKind.i64.wrap (((L.length - b.toNat + m.1 : Nat) : Int) + 1) = ((L.length - b.toNat + (m.1 + 1) : Nat) : Int) := by rw [w64 _ (by omega) (by omega)]; omega
        conv => whnf
        refine ⟨by omega, ?_⟩
        conv => whnf
        refine ⟨_, bg, ?_⟩
        conv => whnf
        refine ⟨fun hh1 => ?_, fun hh1 => ?_⟩
        · skip
          conv => whnf
          refine ⟨⟨m.1 + 1, by omega⟩, by show L.length - (m.1 + 1) < L.length - m.1; omega, .of [some 0] (by rfl) ?_⟩
          conv => whnf
          refine ⟨by rfl, ?_⟩
          conv => whnf
          refine ⟨by exact s1 (by assumption), ?_⟩
          conv => whnf
          refine ⟨by omega, ?_⟩
          conv => whnf
          refine ⟨by rfl, ?_⟩
          conv => whnf
          refine ⟨by rfl, ?_⟩
          conv => whnf
          refine ⟨by rfl, ?_⟩
          conv => whnf
          refine ⟨by rfl, ?_⟩
          conv => whnf
          refine ⟨by rfl, ?_⟩
          conv => whnf
          refine ⟨by rfl, ?_⟩
          conv => whnf
          refine ⟨by rfl, ?_⟩
          conv => whnf
          exact trivial
        · skip
          conv => whnf
          refine ⟨⟨m.1 + 1, by omega⟩, by show L.length - (m.1 + 1) < L.length - m.1; omega, .of [some 0] (by rfl) ?_⟩
          conv => whnf
          refine ⟨by rfl, ?_⟩
          conv => whnf
          refine ⟨by exact s2 (by assumption), ?_⟩
          conv => whnf
          refine ⟨by omega, ?_⟩
          conv => whnf
          refine ⟨by rfl, ?_⟩
          conv => whnf
          refine ⟨by rfl, ?_⟩
          conv => whnf
          refine ⟨by rfl, ?_⟩
          conv => whnf
          refine ⟨by rfl, ?_⟩
          conv => whnf
          refine ⟨by rfl, ?_⟩
          conv => whnf
          refine ⟨by rfl, ?_⟩
          conv => whnf
          refine ⟨by rfl, ?_⟩
          conv => whnf
          exact trivial
      · have hb : m.1 = L.length - (L.length - b.toNat) := by simp only [decide_eq_false_iff_not] at hb; omega
        conv => whnf
        refine .same ?_
        conv => whnf
        refine ⟨by simp [*], ?_⟩
        conv => whnf
  · have e : rpredV k a b L an tr = if k = 2 ∧ an = true then tr else if L.length = 0 then true else L.getD (L.length - 1) false := if_neg hk
    rw [e]
    conv => whnf
    refine both_f (by exact decide_eq_false hk) ?_
    by_cases h0 : L.length = 0
    · have q : L = [] := List.eq_nil_of_length_eq_zero h0
      subst q
      conv => whnf
      refine ⟨fun hh0 => ?_, fun hh0 => ?_⟩
      · simp only [decide_eq_true_eq, decide_eq_false_iff_not] at hh0
        conv => whnf
        refine ⟨fun hh1 => ?_, fun hh1 => ?_⟩
        · skip
          conv => whnf
          refine ⟨by simp [*], ?_⟩
          conv => whnf
        · skip
          conv => whnf
          refine both_t rfl ?_
          conv => whnf
          refine ⟨by simp [*], ?_⟩
          conv => whnf
      · simp only [decide_eq_true_eq, decide_eq_false_iff_not] at hh0
        conv => whnf
        refine both_t rfl ?_
        conv => whnf
        refine ⟨by simp; omega, ?_⟩
        conv => whnf
    · have hg : L.length - 1 < L.length := by omega
      have bg := bget hg
      have ew : IntKind.i64.wrap (((bls L).length : Int) - 1) = ((L.length - 1 : Nat) : Int) := by rw [hl, w64 _ (by omega) (by omega)]; omega
      have bi : 0 ≤ IntKind.i64.wrap (((bls L).length : Int) - 1) ∧ IntKind.i64.wrap (((bls L).length : Int) - 1) < ((bls L).length : Int) := by rw [ew, hl]; omega
      have bg2 : (bls L)[(IntKind.i64.wrap (((bls L).length : Int) - 1)).toNat]? = some [SV.bool (L.getD (L.length - 1) false)] := by rw [ew]; exact bg
      conv => whnf
      refine ⟨fun hh0 => ?_, fun hh0 => ?_⟩
      · simp only [decide_eq_true_eq, decide_eq_false_iff_not] at hh0
        conv => whnf
        refine ⟨fun hh1 => ?_, fun hh1 => ?_⟩
        · skip
          conv => whnf
          refine ⟨by simp [*], ?_⟩
          conv => whnf
        · skip
          conv => whnf
          refine both_f (by simp [*]) ?_
          conv => whnf
          refine ⟨by omega, ?_⟩
          conv => whnf
          refine ⟨_, bg2, ?_⟩
          conv => whnf
          refine ⟨by simp [*], ?_⟩
          conv => whnf
      · simp only [decide_eq_true_eq, decide_eq_false_iff_not] at hh0
        conv => whnf
        refine both_f (by simp [*]) ?_
        conv => whnf
        refine ⟨by omega, ?_⟩
        conv => whnf
        refine ⟨_, bg2, ?_⟩
        conv => whnf
        refine ⟨by simp [*], ?_⟩
        conv => whnf
theorem rhistory_s (k a b : Int) (L : List Bool) (hn : L.length ≤ 1000000) (an tr : Bool) (r : Int) :
    OSpec Try.prog 48 [.ptr 0 0] [refB k a b L an tr r] fun s ho => s = .rs 1 (bls (L.drop (L.length - 32))) ∧ ho = [refB k a b L an tr r] := by
  refine .of_code tab_ok Try.func48 (by rfl) rfl trivial ?_
  have hl : (bls L).length = L.length := by simp
  have g1 : (if (0 : Int) > IntKind.i64.wrap (((bls L).length : Int) - 32) then 0 else IntKind.i64.wrap (((bls L).length : Int) - 32)) = ((L.length - 32 : Nat) : Int) := by rw [hl, w64 _ (by omega) (by omega)]; split <;> omega
  have hf : SV.rs 1 (List.drop (if (0 : Int) > IntKind.i64.wrap (((bls L).length : Int) - 32) then 0 else IntKind.i64.wrap (((bls L).length : Int) - 32)).toNat (List.take (((bls L).length : Int)).toNat (bls L))) = SV.rs 1 (bls (List.drop (L.length - 32) L)) := by
    rw [g1, hl]; simp only [Int.toNat_natCast]; rw [List.take_of_length_le (by simp)]; simp [List.map_drop]
  conv => whnf
  refine DrawG.of mixed tab_ok ?_
  conv => whnf
  refine ⟨by omega, ?_⟩
  conv => whnf
  refine ⟨by kernel_rfl, ?_⟩
  conv => whnf
  refine ⟨by omega, ?_⟩
  conv => whnf
theorem robserve_s (k a b : Int) (hp : prOk k a b = true) (L : List Bool) (hn : L.length ≤ 100000) (an tr g : Bool) (r : Int) (hr : 0 ≤ r ∧ r ≤ 100000) :
    GSpec Try.prog 44 [.ptr 0 0, .bool g] [refB k a b L an tr r] fun s ho => s = .tup [] ∧ ho = [refB k a b (L ++ [g]) false tr (if rpredV k a b L an tr = g then r + 1 else r)] := by
  refine .of_cut tab_ok 2 Try.func44 (by rfl) rfl ?_
  have hl : (bls L).length = L.length := by simp
  have er : IntKind.i64.wrap (r + 1) = r + 1 := w64 _ (by omega) (by omega)
  have ea : ([] ++ bls L) ++ [[SV.bool g]] = bls (L ++ [g]) := by simp
  conv => whnf
  refine (rpredict_s k a b hp L (by omega) an tr r).call [0] (by decide) trivial (And.intro rfl trivial) ?_
  rintro _ _ ⟨rfl, rfl⟩
  conv => whnf
  refine ⟨fun hb => ?_, fun hb => ?_⟩
  · have hb : rpredV k a b L an tr = g := by simpa using hb
    rw [if_pos hb]
    conv => whnf
    refine ⟨by simp; omega, ?_⟩
    conv => whnf
    refine ⟨by simp; omega, ?_⟩
    conv => whnf
    refine XG.freezeH 4 ?_
    conv => whnf
    refine .same ?_
    conv => whnf
    refine OutG.of [some 0] (.tup []) [refB k a b (L ++ [g]) false tr (r + 1)] (by rfl) ⟨rfl, rfl⟩ ?_
    conv => whnf
    refine ⟨by rfl, ?_⟩
    conv => whnf
    refine ⟨by rfl, ?_⟩
    conv => whnf
    refine ⟨by rfl, ?_⟩
    conv => whnf
    refine ⟨by omega, ?_⟩
    conv => whnf
    refine ⟨by rfl, ?_⟩
    conv => whnf
    refine ⟨by rfl, ?_⟩
    conv => whnf
    refine ⟨by omega, ?_⟩
    conv => whnf
    exact trivial
  · have hb : ¬ rpredV k a b L an tr = g := by simpa using hb
    rw [if_neg hb]
    conv => whnf
    refine ⟨by simp; omega, ?_⟩
    conv => whnf
    refine ⟨by simp; omega, ?_⟩
    conv => whnf
    refine XG.freezeH 4 ?_
    conv => whnf
    refine .same ?_
    conv => whnf
    refine OutG.of [some 0] (.tup []) [refB k a b (L ++ [g]) false tr (r)] (by rfl) ⟨rfl, rfl⟩ ?_
    conv => whnf
    refine ⟨by rfl, ?_⟩
    conv => whnf
    refine ⟨by rfl, ?_⟩
    conv => whnf
    refine ⟨by rfl, ?_⟩
    conv => whnf
    refine ⟨by omega, ?_⟩
    conv => whnf
    refine ⟨by rfl, ?_⟩
    conv => whnf
    refine ⟨by rfl, ?_⟩
    conv => whnf
    refine ⟨by rfl, ?_⟩
    conv => whnf
    exact trivial
theorem equalB_s (A : List Bool) (hn : A.length ≤ 1000000) : PSpec Try.prog 46 [.rs 1 (bls A), .rs 1 (bls A)] (· = .bool true) := by
  refine .of_code' tab_ok Try.func46 (by rfl) rfl trivial ?_
  have hl : (bls A).length = A.length := by simp
  conv => whnf
  refine both_f (by simp) ?_
  conv => whnf
  refine LoopG.inv tab_ok 26 (fun i : { i : Nat // i ≤ A.length } => [(0, .rs 1 (bls A)), (1, .rs 1 (bls A)), (5, .int .i64 (i.1 : Int))])
    (fun _ => []) (fun i => A.length - i.1) ⟨0, by omega⟩ (.of [] (by decide) ?_) ?_
  · conv => whnf
    refine ⟨by rfl, ?_⟩
    conv => whnf
    refine ⟨by rfl, ?_⟩
    conv => whnf
    refine ⟨by rfl, ?_⟩
    conv => whnf
    exact trivial
  · intro i
    have hi := i.2
    conv => whnf
    refine ⟨fun hb => ?_, fun hb => ?_⟩
    · have hb : i.1 < A.length := by rw [hl] at hb; simpa using hb
      have bg := bget hb
      conv => whnf
      refine DrawG.of mixed tab_ok ?_
      conv => whnf
      refine ⟨by omega, ?_⟩
      conv => whnf
      refine ⟨_, bg, ?_⟩
      conv => whnf
      refine ⟨by omega, ?_⟩
      conv => whnf
      refine ⟨_, bg, ?_⟩
      conv => whnf
      refine ⟨by kernel_rfl, ?_⟩
      conv => whnf
      refine both_f (by simp) ?_
      conv => whnf
      refine ⟨⟨i.1 + 1, by omega⟩, by show A.length - (i.1 + 1) < A.length - i.1; omega, .of [] (by decide) ?_⟩
      conv => whnf
      refine ⟨by rfl, ?_⟩
      conv => whnf
      refine ⟨by rfl, ?_⟩
      conv => whnf
      refine ⟨by exact (w64 _ (by omega) (by omega)).trans (by simp), ?_⟩
      conv => whnf
      exact trivial
    · conv => whnf
      refine .same ?_
      conv => whnf
end Go.Proofs.Ythlomoacacebeac
