/- The example of chapter 15; contracts of ChannelValid, ChannelOracle and ChannelLast. No statement of the seat is proved here. -/
import Derived.Test.YthlomoacacebeacChan
import Derived.Test.YthlomoacacebeacGenW
namespace Go.Proofs.Ythlomoacacebeac
open Go.Sx
set_option linter.unusedSimpArgs false
set_option linter.unusedVariables false
theorem awake15_s : PSpec Try.prog 36 [] (· = .bool true) := by
  refine .of_code' tab_ok Try.func36 (by rfl) rfl trivial ?_
  have hp : prOk 1 2 3 = true := by decide
  conv => whnf
  refine (cnew_yes _ _ _ (by first | omega | assumption | decide | simp)).call [0] (by rfl) (And.intro rfl (And.intro rfl (And.intro rfl trivial))) trivial ?_
  rintro _ _ ⟨rfl, rfl⟩
  conv => whnf
  refine both_f rfl ?_
  conv => whnf
  refine (predict_s _ _ _ (by first | omega | assumption | decide | simp) _ _ _ _ _ (by first | omega | assumption | decide | simp)).call [0] (by decide) trivial (And.intro rfl trivial) ?_
  rintro _ _ ⟨rfl, rfl⟩
  conv => whnf
  refine both_f rfl ?_
  conv => whnf
  refine (observe_s _ _ _ (by first | omega | assumption | decide | simp) _ _ _ _ _ _ (by first | omega | assumption | decide | simp) (by first | omega | assumption | decide | simp)).call [0] (by rfl) (And.intro rfl trivial) (And.intro rfl (And.intro rfl (And.intro rfl (And.intro rfl (And.intro rfl (And.intro rfl (And.intro rfl (And.intro rfl (And.intro rfl (And.intro rfl (And.intro rfl (And.intro rfl (And.intro rfl (And.intro rfl (And.intro rfl (And.intro rfl (And.intro rfl (And.intro rfl (And.intro rfl (And.intro rfl (And.intro rfl (And.intro rfl (And.intro rfl (And.intro rfl (And.intro rfl (And.intro rfl (And.intro rfl (And.intro rfl (And.intro rfl (And.intro rfl (And.intro rfl (And.intro rfl (And.intro rfl (And.intro rfl (And.intro rfl (And.intro rfl (And.intro rfl (And.intro rfl (And.intro rfl trivial))))))))))))))))))))))))))))))))))))))) ?_
  rintro _ _ ⟨rfl, rfl⟩
  conv => whnf
  refine (predict_s _ _ _ (by first | omega | assumption | decide | simp) _ _ _ _ _ (by first | omega | assumption | decide | simp)).call [0] (by decide) trivial (And.intro rfl trivial) ?_
  rintro _ _ ⟨rfl, rfl⟩
  conv => whnf
  refine (observe_s _ _ _ (by first | omega | assumption | decide | simp) _ _ _ _ _ _ (by first | omega | assumption | decide | simp) (by first | omega | assumption | decide | simp)).call [0] (by rfl) (And.intro rfl trivial) (And.intro rfl (And.intro rfl (And.intro rfl (And.intro rfl (And.intro rfl (And.intro rfl (And.intro rfl (And.intro rfl (And.intro rfl (And.intro rfl (And.intro rfl (And.intro rfl (And.intro rfl (And.intro rfl (And.intro rfl (And.intro rfl (And.intro rfl (And.intro rfl (And.intro rfl (And.intro rfl (And.intro rfl (And.intro rfl (And.intro rfl (And.intro rfl (And.intro rfl (And.intro rfl (And.intro rfl (And.intro rfl (And.intro rfl (And.intro rfl (And.intro rfl (And.intro rfl (And.intro rfl (And.intro rfl (And.intro rfl (And.intro rfl (And.intro rfl (And.intro rfl (And.intro rfl trivial))))))))))))))))))))))))))))))))))))))) ?_
  rintro _ _ ⟨rfl, rfl⟩
  conv => whnf
  refine (predict_s _ _ _ (by first | omega | assumption | decide | simp) _ _ _ _ _ (by first | omega | assumption | decide | simp)).call [0] (by decide) trivial (And.intro rfl trivial) ?_
  rintro _ _ ⟨rfl, rfl⟩
  conv => whnf
  refine (observe_s _ _ _ (by first | omega | assumption | decide | simp) _ _ _ _ _ _ (by first | omega | assumption | decide | simp) (by first | omega | assumption | decide | simp)).call [0] (by rfl) (And.intro rfl trivial) (And.intro rfl (And.intro rfl (And.intro rfl (And.intro rfl (And.intro rfl (And.intro rfl (And.intro rfl (And.intro rfl (And.intro rfl (And.intro rfl (And.intro rfl (And.intro rfl (And.intro rfl (And.intro rfl (And.intro rfl (And.intro rfl (And.intro rfl (And.intro rfl (And.intro rfl (And.intro rfl (And.intro rfl (And.intro rfl (And.intro rfl (And.intro rfl (And.intro rfl (And.intro rfl (And.intro rfl (And.intro rfl (And.intro rfl (And.intro rfl (And.intro rfl (And.intro rfl (And.intro rfl (And.intro rfl (And.intro rfl (And.intro rfl (And.intro rfl (And.intro rfl (And.intro rfl trivial))))))))))))))))))))))))))))))))))))))) ?_
  rintro _ _ ⟨rfl, rfl⟩
  conv => whnf
  refine both_t rfl ?_
  conv => whnf
  refine both_t rfl ?_
  conv => whnf
  refine (predict_s _ _ _ (by first | omega | assumption | decide | simp) _ _ _ _ _ (by first | omega | assumption | decide | simp)).call [0] (by decide) trivial (And.intro rfl trivial) ?_
  rintro _ _ ⟨rfl, rfl⟩
  conv => whnf
  rfl
theorem channelValid_s (ls : List Int) (p : Int × Int × Int) : PSpec Try.prog 9 [.rs 1 (nums ls), prE p.1 p.2.1 p.2.2] TrueS := by
  refine .of_code' tab_ok Try.func9 (by rfl) rfl trivial ?_
  conv => whnf
  refine CallG.of_code tab_ok Try.func15 (by rfl) rfl ?_
  conv => whnf
  refine LoopG.inv tab_ok 64 (fun i : { i : Nat // i ≤ 12 } => [(3, .ptr 0 0), (5, .ptr 1 0), (6, .int .i64 (i.1 : Int))])
    (fun i => [.fix 57 [.int .i64 p.1, .int .i64 p.2.1, .int .i64 p.2.2], chs ls (3 * (i.1 : Int))]) (fun i => 12 - i.1) ⟨0, by decide⟩ (.of [some 0, some 1] (by rfl) ?_) ?_
  · conv => whnf
    refine ⟨by rfl, ?_⟩
    conv => whnf
    refine ⟨by rfl, ?_⟩
    conv => whnf
    refine ⟨by rfl, ?_⟩
    conv => whnf
    refine ⟨by rfl, ?_⟩
    conv => whnf
    refine ⟨by rfl, ?_⟩
    conv => whnf
    refine ⟨by rfl, ?_⟩
    conv => whnf
    exact trivial
  · intro i
    have hi := i.2
    conv => whnf
    refine ⟨fun hb => ?_, fun hb => ?_⟩
    · have hb : (i.1 : Int) < 12 := by simpa using hb
      have ea : 3 * (i.1 : Int) + 1 + 1 + 1 = 3 * ((i.1 + 1 : Nat) : Int) := by omega
      conv => whnf
      refine (next_s _ _ _ (by first | omega | assumption | decide | simp) (by first | omega | assumption | decide | simp) (by first | omega | assumption | decide | simp)).call [1] (by decide) (And.intro rfl trivial) (And.intro rfl trivial) ?_
      rintro _ _ ⟨rfl, rfl⟩
      conv => whnf
      refine (next_s _ _ _ (by first | omega | assumption | decide | simp) (by first | omega | assumption | decide | simp) (by first | omega | assumption | decide | simp)).call [1] (by decide) (And.intro rfl trivial) (And.intro rfl trivial) ?_
      rintro _ _ ⟨rfl, rfl⟩
      conv => whnf
      refine (next_s _ _ _ (by first | omega | assumption | decide | simp) (by first | omega | assumption | decide | simp) (by first | omega | assumption | decide | simp)).call [1] (by decide) (And.intro rfl trivial) (And.intro rfl trivial) ?_
      rintro _ _ ⟨rfl, rfl⟩
      conv => whnf
      refine ⟨by exact ⟨nxt_lo _ _ _, nxt_hi _ _ _ (by omega)⟩, ?_⟩
      conv => whnf
      refine ⟨_, lit_get (l := [0, 1, 3, 32, 33]) (nxt_lo _ _ _) (nxt_hi _ _ _ (by decide)), ?_⟩
      generalize IntKind.i64.wrap (nxt ls (3 * (i.1 : Int)) 5 - 1) = k
      generalize nxt ls (3 * (i.1 : Int) + 1) 4 = a
      generalize ([0, 1, 3, 32, 33] : List Int).getD (nxt ls (3 * (i.1 : Int) + 1 + 1) 5).toNat 0 = b
      by_cases h : prOk k a b = true
      · conv => whnf
        refine (cnew_yes _ _ _ (by first | omega | assumption | decide | simp)).call [4] (by rfl) (And.intro rfl (And.intro rfl (And.intro rfl trivial))) trivial ?_
        rintro _ _ ⟨rfl, rfl⟩
        conv => whnf
        refine DrawG.of mixed tab_ok ?_
        conv => whnf
        refine (cvalid_s _ _ _).calld ?_
        conv => whnf
        refine (rpred_s _ _ _).calld ?_
        conv => whnf
        refine both_f (by simp) ?_
        conv => whnf
        refine (rpred_s _ _ _).calld ?_
        conv => whnf
        refine both_f (by simp; omega) ?_
        conv => whnf
        refine both_f rfl ?_
        conv => whnf
        refine ⟨by kernel_rfl, ?_⟩
        conv => whnf
        refine ⟨⟨i.1 + 1, by omega⟩, by show 12 - (i.1 + 1) < 12 - i.1; omega, .of [some 0, some 1] (by rfl) ?_⟩
        conv => whnf
        refine ⟨by exact (w64 _ (by omega) (by omega)).trans (by simp), ?_⟩
        conv => whnf
        refine ⟨by rfl, ?_⟩
        conv => whnf
        refine ⟨by rfl, ?_⟩
        conv => whnf
        refine ⟨by rfl, ?_⟩
        conv => whnf
        refine ⟨by rfl, ?_⟩
        conv => whnf
        refine ⟨by rfl, ?_⟩
        conv => whnf
        exact trivial
      · have h : prOk k a b = false := by simpa using h
        conv => whnf
        refine (cnew_no _ _ _ (by first | omega | assumption | decide | simp)).call [] (by rfl) (And.intro rfl (And.intro rfl (And.intro rfl trivial))) trivial ?_
        rintro _ _ ⟨rfl, rfl⟩
        conv => whnf
        refine DrawG.of mixed tab_ok ?_
        conv => whnf
        refine (cvalid_s _ _ _).calld ?_
        conv => whnf
        refine (rpred_s _ _ _).calld ?_
        conv => whnf
        refine both_f (by simp) ?_
        conv => whnf
        refine (rpred_s _ _ _).calld ?_
        conv => whnf
        refine both_f (by simp; omega) ?_
        conv => whnf
        refine both_t rfl ?_
        conv => whnf
        refine both_f rfl ?_
        conv => whnf
        refine ⟨by kernel_rfl, ?_⟩
        conv => whnf
        refine ⟨⟨i.1 + 1, by omega⟩, by show 12 - (i.1 + 1) < 12 - i.1; omega, .of [some 0, some 1] (by rfl) ?_⟩
        conv => whnf
        refine ⟨by exact (w64 _ (by omega) (by omega)).trans (by simp), ?_⟩
        conv => whnf
        refine ⟨by rfl, ?_⟩
        conv => whnf
        refine ⟨by rfl, ?_⟩
        conv => whnf
        refine ⟨by rfl, ?_⟩
        conv => whnf
        refine ⟨by rfl, ?_⟩
        conv => whnf
        refine ⟨by rfl, ?_⟩
        conv => whnf
        exact trivial
    · conv => whnf
      refine .same ?_
      conv => whnf
      refine DrawG.of mixed tab_ok ?_
      conv => whnf
      refine (cvalid_s _ _ _).calld ?_
      conv => whnf
      refine (rpred_s _ _ _).calld ?_
      conv => whnf
      refine both_t (by simp) ?_
      conv => whnf
      refine (awake15_s).calld ?_
      conv => whnf
      refine ⟨by kernel_rfl, ?_⟩
      conv => whnf
theorem bget {L : List Bool} {i : Nat} (h : i < L.length) : (bls L)[(i : Int).toNat]? = some [SV.bool (L.getD i false)] := by
  rw [Int.toNat_natCast]; simp [List.getElem?_map, List.getElem?_eq_getElem h, List.getD]
theorem channelOracle_s (L : List Bool) : PSpec Try.prog 11 [.rs 1 (bls L)] TrueS := by
  refine .of_code' tab_ok Try.func11 (by rfl) rfl trivial ?_
  have hl : (bls L).length = L.length := by simp
  have hp : prOk 2 0 0 = true := by decide
  conv => whnf
  refine (cnew_yes 2 0 0 hp).call [0] (by rfl) (And.intro rfl (And.intro rfl (And.intro rfl trivial))) trivial ?_
  rintro _ _ ⟨rfl, rfl⟩
  conv => whnf
  refine both_f rfl ?_
  conv => whnf
  refine ⟨fun hc => ?_, fun hc => ?_⟩
  · have hc : 200 < (L.length : Int) := by rw [hl] at hc; simpa using hc
    conv => whnf
    (rw [hl]; exact decide_eq_true hc)
  · have hc : (L.length : Int) ≤ 200 := by rw [hl] at hc; simpa using hc
    conv => whnf
    refine LoopG.inv tab_ok 76 (fun x : { x : Nat × (Nat → Bool) × Bool // x.1 ≤ L.length } => [(0, .rs 1 (bls L)), (3, .ptr 0 0), (5, .int .i64 (x.1.1 : Int))])
      (fun x => [chB 2 0 0 x.1.2.1 x.1.1 (x.1.1 : Int) false x.1.2.2]) (fun x => L.length - x.1.1) ⟨(0, noF, false), by show 0 ≤ L.length; omega⟩ (.of [some 0] (by rfl) ?_) ?_
    · conv => whnf
      refine ⟨by rfl, ?_⟩
      conv => whnf
      refine ⟨by rfl, ?_⟩
      conv => whnf
      refine ⟨by rfl, ?_⟩
      conv => whnf
      refine ⟨by rfl, ?_⟩
      conv => whnf
      refine ⟨by rfl, ?_⟩
      conv => whnf
      refine ⟨by rfl, ?_⟩
      conv => whnf
      refine ⟨by rfl, ?_⟩
      conv => whnf
      refine ⟨by rfl, ?_⟩
      conv => whnf
      refine ⟨by rfl, ?_⟩
      conv => whnf
      refine ⟨by rfl, ?_⟩
      conv => whnf
      refine ⟨by rfl, ?_⟩
      conv => whnf
      refine ⟨by rfl, ?_⟩
      conv => whnf
      refine ⟨by rfl, ?_⟩
      conv => whnf
      refine ⟨by rfl, ?_⟩
      conv => whnf
      refine ⟨by rfl, ?_⟩
      conv => whnf
      refine ⟨by rfl, ?_⟩
      conv => whnf
      refine ⟨by rfl, ?_⟩
      conv => whnf
      refine ⟨by rfl, ?_⟩
      conv => whnf
      refine ⟨by rfl, ?_⟩
      conv => whnf
      refine ⟨by rfl, ?_⟩
      conv => whnf
      refine ⟨by rfl, ?_⟩
      conv => whnf
      refine ⟨by rfl, ?_⟩
      conv => whnf
      refine ⟨by rfl, ?_⟩
      conv => whnf
      refine ⟨by rfl, ?_⟩
      conv => whnf
      refine ⟨by rfl, ?_⟩
      conv => whnf
      refine ⟨by rfl, ?_⟩
      conv => whnf
      refine ⟨by rfl, ?_⟩
      conv => whnf
      refine ⟨by rfl, ?_⟩
      conv => whnf
      refine ⟨by rfl, ?_⟩
      conv => whnf
      refine ⟨by rfl, ?_⟩
      conv => whnf
      refine ⟨by rfl, ?_⟩
      conv => whnf
      refine ⟨by rfl, ?_⟩
      conv => whnf
      refine ⟨by rfl, ?_⟩
      conv => whnf
      refine ⟨by rfl, ?_⟩
      conv => whnf
      refine ⟨by rfl, ?_⟩
      conv => whnf
      refine ⟨by rfl, ?_⟩
      conv => whnf
      refine ⟨by rfl, ?_⟩
      conv => whnf
      refine ⟨by rfl, ?_⟩
      conv => whnf
      refine ⟨by rfl, ?_⟩
      conv => whnf
      refine ⟨by rfl, ?_⟩
      conv => whnf
      refine ⟨by rfl, ?_⟩
      conv => whnf
      exact trivial
    · intro x
      have hx := x.2
      conv => whnf
      refine ⟨fun hb => ?_, fun hb => ?_⟩
      · have hb : x.1.1 < L.length := by rw [hl] at hb; simpa using hb
        have pv : predV 2 0 0 x.1.2.1 x.1.1 true (L.getD x.1.1 false) = L.getD x.1.1 false := by unfold predV; rw [if_neg (by decide), if_pos ⟨rfl, rfl⟩]
        have pv2 : (if predV 2 0 0 x.1.2.1 x.1.1 true (L.getD x.1.1 false) = L.getD x.1.1 false then (x.1.1 : Int) + 1 else (x.1.1 : Int)) = ((x.1.1 + 1 : Nat) : Int) := by rw [if_pos pv]; omega
        conv => whnf
        refine ⟨by omega, ?_⟩
        conv => whnf
        refine ⟨_, bget hb, ?_⟩
        conv => whnf
        refine (announce_s _ _ _ _ _ _ _ _ _).call [0] (by rfl) (And.intro rfl trivial) (And.intro rfl (And.intro rfl (And.intro rfl (And.intro rfl (And.intro rfl (And.intro rfl (And.intro rfl (And.intro rfl (And.intro rfl (And.intro rfl (And.intro rfl (And.intro rfl (And.intro rfl (And.intro rfl (And.intro rfl (And.intro rfl (And.intro rfl (And.intro rfl (And.intro rfl (And.intro rfl (And.intro rfl (And.intro rfl (And.intro rfl (And.intro rfl (And.intro rfl (And.intro rfl (And.intro rfl (And.intro rfl (And.intro rfl (And.intro rfl (And.intro rfl (And.intro rfl (And.intro rfl (And.intro rfl (And.intro rfl (And.intro rfl (And.intro rfl (And.intro rfl (And.intro rfl trivial))))))))))))))))))))))))))))))))))))))) ?_
        rintro _ _ ⟨rfl, rfl⟩
        conv => whnf
        refine ⟨by omega, ?_⟩
        conv => whnf
        refine ⟨_, bget hb, ?_⟩
        conv => whnf
        refine (announce_s _ _ _ _ _ _ _ _ _).call [0] (by rfl) (And.intro rfl trivial) (And.intro rfl (And.intro rfl (And.intro rfl (And.intro rfl (And.intro rfl (And.intro rfl (And.intro rfl (And.intro rfl (And.intro rfl (And.intro rfl (And.intro rfl (And.intro rfl (And.intro rfl (And.intro rfl (And.intro rfl (And.intro rfl (And.intro rfl (And.intro rfl (And.intro rfl (And.intro rfl (And.intro rfl (And.intro rfl (And.intro rfl (And.intro rfl (And.intro rfl (And.intro rfl (And.intro rfl (And.intro rfl (And.intro rfl (And.intro rfl (And.intro rfl (And.intro rfl (And.intro rfl (And.intro rfl (And.intro rfl (And.intro rfl (And.intro rfl (And.intro rfl (And.intro rfl trivial))))))))))))))))))))))))))))))))))))))) ?_
        rintro _ _ ⟨rfl, rfl⟩
        conv => whnf
        refine DrawG.of mixed tab_ok ?_
        conv => whnf
        refine (predict_s _ _ _ (by first | omega | exact ⟨by omega, by omega⟩ | assumption | decide | simp) _ _ _ _ _ (by first | omega | exact ⟨by omega, by omega⟩ | assumption | decide | simp)).calld [0] (by decide) rfl trivial (And.intro rfl trivial) ?_
        conv => whnf
        refine ⟨by omega, ?_⟩
        conv => whnf
        refine ⟨_, bget hb, ?_⟩
        conv => whnf
        refine ⟨by kernel_rfl, ?_⟩
        conv => whnf
        refine both_f (by rw [pv]; simp) ?_
        conv => whnf
        refine ⟨by omega, ?_⟩
        conv => whnf
        refine ⟨_, bget hb, ?_⟩
        conv => whnf
        refine (observe_s _ _ _ (by first | omega | exact ⟨by omega, by omega⟩ | assumption | decide | simp) _ _ _ _ _ _ (by first | omega | exact ⟨by omega, by omega⟩ | assumption | decide | simp) (by first | omega | exact ⟨by omega, by omega⟩ | assumption | decide | simp)).call [0] (by rfl) (And.intro rfl trivial) (And.intro rfl (And.intro rfl (And.intro rfl (And.intro rfl (And.intro rfl (And.intro rfl (And.intro rfl (And.intro rfl (And.intro rfl (And.intro rfl (And.intro rfl (And.intro rfl (And.intro rfl (And.intro rfl (And.intro rfl (And.intro rfl (And.intro rfl (And.intro rfl (And.intro rfl (And.intro rfl (And.intro rfl (And.intro rfl (And.intro rfl (And.intro rfl (And.intro rfl (And.intro rfl (And.intro rfl (And.intro rfl (And.intro rfl (And.intro rfl (And.intro rfl (And.intro rfl (And.intro rfl (And.intro rfl (And.intro rfl (And.intro rfl (And.intro rfl (And.intro rfl (And.intro rfl trivial))))))))))))))))))))))))))))))))))))))) ?_
        rintro _ _ ⟨rfl, rfl⟩
        conv => whnf
        refine ⟨⟨(x.1.1 + 1, upd x.1.2.1 (x.1.1 % 32) (L.getD x.1.1 false), L.getD x.1.1 false), by show x.1.1 + 1 ≤ L.length; omega⟩, by show L.length - (x.1.1 + 1) < L.length - x.1.1; omega, .of [some 0] (by rfl) ?_⟩
        conv => whnf
        refine ⟨by rfl, ?_⟩
        conv => whnf
        refine ⟨by exact (w64 _ (by omega) (by omega)).trans (by simp), ?_⟩
        conv => whnf
        refine ⟨by rfl, ?_⟩
        conv => whnf
        refine ⟨by rfl, ?_⟩
        conv => whnf
        refine ⟨by rfl, ?_⟩
        conv => whnf
        refine ⟨by rfl, ?_⟩
        conv => whnf
        refine ⟨by rfl, ?_⟩
        conv => whnf
        refine ⟨by rfl, ?_⟩
        conv => whnf
        refine ⟨by rfl, ?_⟩
        conv => whnf
        refine ⟨by rfl, ?_⟩
        conv => whnf
        refine ⟨by rfl, ?_⟩
        conv => whnf
        refine ⟨by rfl, ?_⟩
        conv => whnf
        refine ⟨by rfl, ?_⟩
        conv => whnf
        refine ⟨by rfl, ?_⟩
        conv => whnf
        refine ⟨by rfl, ?_⟩
        conv => whnf
        refine ⟨by rfl, ?_⟩
        conv => whnf
        refine ⟨by rfl, ?_⟩
        conv => whnf
        refine ⟨by rfl, ?_⟩
        conv => whnf
        refine ⟨by rfl, ?_⟩
        conv => whnf
        refine ⟨by rfl, ?_⟩
        conv => whnf
        refine ⟨by rfl, ?_⟩
        conv => whnf
        refine ⟨by rfl, ?_⟩
        conv => whnf
        refine ⟨by rfl, ?_⟩
        conv => whnf
        refine ⟨by rfl, ?_⟩
        conv => whnf
        refine ⟨by rfl, ?_⟩
        conv => whnf
        refine ⟨by rfl, ?_⟩
        conv => whnf
        refine ⟨by rfl, ?_⟩
        conv => whnf
        refine ⟨by rfl, ?_⟩
        conv => whnf
        refine ⟨by rfl, ?_⟩
        conv => whnf
        refine ⟨by rfl, ?_⟩
        conv => whnf
        refine ⟨by rfl, ?_⟩
        conv => whnf
        refine ⟨by rfl, ?_⟩
        conv => whnf
        refine ⟨by rfl, ?_⟩
        conv => whnf
        refine ⟨by rfl, ?_⟩
        conv => whnf
        refine ⟨by rfl, ?_⟩
        conv => whnf
        refine ⟨by rfl, ?_⟩
        conv => whnf
        refine ⟨by rfl, ?_⟩
        conv => whnf
        refine ⟨by rfl, ?_⟩
        conv => whnf
        refine ⟨by omega, ?_⟩
        conv => whnf
        refine ⟨by rfl, ?_⟩
        conv => whnf
        refine ⟨by rfl, ?_⟩
        conv => whnf
        exact trivial
      · have hb : x.1.1 = L.length := by rw [hl] at hb; simp at hb; omega
        conv => whnf
        refine .same ?_
        conv => whnf
        refine (score_s _ _ _ _ _ _ _ _).call [0] (by decide) trivial (And.intro rfl trivial) ?_
        rintro _ _ ⟨rfl, rfl⟩
        conv => whnf
        refine both_t (by simp; omega) ?_
        conv => whnf
        refine both_t (by simp) ?_
        conv => whnf
        refine (awake15_s).call ?_
        rintro _ rfl
        conv => whnf
/-! ### windows -/
/-- The states that are kept are the last observations. -/
def stO (f : Nat → Bool) (L : List Bool) (i : Nat) : Prop := ∀ j, j < i → i ≤ j + 32 → f (j % 32) = L.getD j false
theorem stO_upd {f : Nat → Bool} {L : List Bool} {i : Nat} (h : stO f L i) : stO (upd f (i % 32) (L.getD i false)) L (i + 1) := by
  intro j hj hk
  unfold upd
  by_cases e : j = i
  · subst e; rw [if_pos rfl]
  · rw [if_neg (by omega)]; exact h j (by omega) (by omega)
theorem lastV_st {f : Nat → Bool} {L : List Bool} {i ago : Nat} (h : stO f L i) (h1 : 1 ≤ ago) (h2 : ago ≤ 32) : lastV f i ago = if i < ago then true else L.getD (i - ago) false := by
  unfold lastV
  split
  · rfl
  · exact h (i - ago) (by omega) (by omega)
/-- All of the last k observations were good. -/
def allV (L : List Bool) (i : Nat) : Nat → Bool
  | 0 => true
  | k + 1 => allV L i k && (if i < k + 1 then true else L.getD (i - (k + 1)) false)
theorem cnt_all {f : Nat → Bool} {L : List Bool} {i : Nat} (h : stO f L i) : ∀ k : Nat, k ≤ 32 → decide ((k : Int) ≤ cntG f i k) = allV L i k := by
  intro k
  induction k with
  | zero => intro _; simp [cntG, allV]
  | succ k ih =>
    intro hk
    have r := cntG_rng f i k
    have e := ih (by omega)
    simp only [cntG, allV, lastV_st h (show 1 ≤ k + 1 by omega) hk]
    rw [← e]
    by_cases c : (if i < k + 1 then true else L.getD (i - (k + 1)) false) = true
    · rw [if_pos c, c, Bool.and_true, decide_eq_decide]; omega
    · have c' : (if i < k + 1 then true else L.getD (i - (k + 1)) false) = false := by simpa using c
      rw [if_neg c, c', Bool.and_false]; simp; omega
/-- The statement's own loop: the observations from a place on up to i. -/
def allF (L : List Bool) (j : Nat) : Nat → Bool
  | 0 => true
  | m + 1 => allF L j m && L.getD (j + m) false
theorem allV_F (L : List Bool) (i : Nat) : ∀ k, allV L i k = allF L (i - k) (i - (i - k)) := by
  intro k
  induction k with
  | zero => simp [allV, allF]
  | succ k ih =>
    simp only [allV]
    by_cases c : i < k + 1
    · rw [if_pos c, Bool.and_true, ih, show i - k = 0 by omega, show i - (k + 1) = 0 by omega]
    · rw [if_neg c, ih]
      have front : ∀ m j, allF L j (m + 1) = (L.getD j false && allF L (j + 1) m) := by
        intro m
        induction m with
        | zero => intro j; simp [allF]
        | succ m ihm =>
          intro j
          rw [show allF L j (m + 1 + 1) = (allF L j (m + 1) && L.getD (j + (m + 1)) false) from rfl, ihm j]
          simp only [allF]
          rw [Bool.and_assoc, show j + 1 + m = j + (m + 1) by omega]
      have e := front k (i - (k + 1))
      rw [show i - k = i - (k + 1) + 1 by omega, show i - (i - (k + 1) + 1) = k by omega, show i - (i - (k + 1)) = k + 1 by omega, e, Bool.and_comm]
theorem ri {r : Int} {i : Nat} (h : 0 ≤ r ∧ r ≤ (i : Int)) (p : Prop) [Decidable p] : 0 ≤ (if p then r + 1 else r) ∧ (if p then r + 1 else r) ≤ ((i + 1 : Nat) : Int) := by
  split <;> omega
set_option maxHeartbeats 1000000 in
theorem channelLast_s (L : List Bool) (nn : Int) (n0 : 0 ≤ nn) (n1 : nn ≤ 255) : PSpec Try.prog 10 [.rs 1 (bls L), .int .u8 nn] TrueS := by
  refine .of_code' tab_ok Try.func10 (by rfl) rfl trivial ?_
  have hl : (bls L).length = L.length := by simp
  have hp : prOk 0 0 0 = true := by decide
  have hp1 : prOk 1 1 1 = true := by decide
  obtain ⟨k, hk⟩ : ∃ k : Nat, (k : Int) = 1 + nn % 8 := ⟨(1 + nn % 8).toNat, by omega⟩
  have k1 : 1 ≤ k ∧ k ≤ 8 := by omega
  have hpk : prOk 1 (k : Int) (k : Int) = true := by unfold prOk; rw [if_neg (by decide), if_pos rfl]; simp; omega
  have ek : IntKind.i64.wrap (1 + IntKind.i64.wrap (Int.tmod nn 8)) = (k : Int) := by rw [Int.tmod_eq_emod_of_nonneg n0, w64 (nn % 8) (by omega) (by omega), w64 _ (by omega) (by omega)]; omega
  conv => whnf
  refine ⟨by decide, ?_⟩
  conv => whnf
  rw [ek]
  refine (cnew_yes 0 0 0 hp).call [0] (by rfl) (And.intro rfl (And.intro rfl (And.intro rfl trivial))) trivial ?_
  rintro _ _ ⟨rfl, rfl⟩
  conv => whnf
  refine (cnew_yes 1 1 1 hp1).call [1] (by rfl) (And.intro rfl (And.intro rfl (And.intro rfl trivial))) trivial ?_
  rintro _ _ ⟨rfl, rfl⟩
  conv => whnf
  refine (cnew_yes 1 (k : Int) (k : Int) hpk).call [2] (by rfl) (And.intro rfl (And.intro rfl (And.intro rfl trivial))) trivial ?_
  rintro _ _ ⟨rfl, rfl⟩
  conv => whnf
  refine both_f rfl ?_
  conv => whnf
  refine both_f rfl ?_
  conv => whnf
  refine both_f rfl ?_
  conv => whnf
  refine ⟨fun hc => ?_, fun hc => ?_⟩
  · have hc : 200 < (L.length : Int) := by rw [hl] at hc; simpa using hc
    conv => whnf
    (simp; omega)
  have hc : (L.length : Int) ≤ 200 := by rw [hl] at hc; simpa using hc
  conv => whnf
  refine LoopG.inv tab_ok 133 (fun x : { x : Nat × (Nat → Bool) × Int × Int × Int // x.1 ≤ L.length ∧ stO x.2.1 L x.1 ∧ (0 ≤ x.2.2.1 ∧ x.2.2.1 ≤ x.1) ∧ (0 ≤ x.2.2.2.1 ∧ x.2.2.2.1 ≤ x.1) ∧ (0 ≤ x.2.2.2.2 ∧ x.2.2.2.2 ≤ x.1) } => [(0, .rs 1 (bls L)), (5, .int .i64 (k : Int)), (6, .ptr 0 0), (8, .ptr 1 0), (10, .ptr 2 0), (12, .int .i64 (x.1.1 : Int))])
    (fun x => [chB 0 0 0 x.1.2.1 x.1.1 x.1.2.2.1 false false, chB 1 1 1 x.1.2.1 x.1.1 x.1.2.2.2.1 false false, chB 1 (k : Int) (k : Int) x.1.2.1 x.1.1 x.1.2.2.2.2 false false]) (fun x => L.length - x.1.1) ⟨(0, noF, 0, 0, 0), by show 0 ≤ L.length; omega, by intro j hj; omega, by decide, by decide, by decide⟩ (.of [some 0, some 1, some 2] (by rfl) ?_) ?_
  · conv => whnf
    refine ⟨by rfl, ?_⟩
    conv => whnf
    refine ⟨by rfl, ?_⟩
    conv => whnf
    refine ⟨by rfl, ?_⟩
    conv => whnf
    refine ⟨by rfl, ?_⟩
    conv => whnf
    refine ⟨by rfl, ?_⟩
    conv => whnf
    refine ⟨by rfl, ?_⟩
    conv => whnf
    refine ⟨by rfl, ?_⟩
    conv => whnf
    refine ⟨by rfl, ?_⟩
    conv => whnf
    refine ⟨by rfl, ?_⟩
    conv => whnf
    refine ⟨by rfl, ?_⟩
    conv => whnf
    refine ⟨by rfl, ?_⟩
    conv => whnf
    refine ⟨by rfl, ?_⟩
    conv => whnf
    refine ⟨by rfl, ?_⟩
    conv => whnf
    refine ⟨by rfl, ?_⟩
    conv => whnf
    refine ⟨by rfl, ?_⟩
    conv => whnf
    refine ⟨by rfl, ?_⟩
    conv => whnf
    refine ⟨by rfl, ?_⟩
    conv => whnf
    refine ⟨by rfl, ?_⟩
    conv => whnf
    refine ⟨by rfl, ?_⟩
    conv => whnf
    refine ⟨by rfl, ?_⟩
    conv => whnf
    refine ⟨by rfl, ?_⟩
    conv => whnf
    refine ⟨by rfl, ?_⟩
    conv => whnf
    refine ⟨by rfl, ?_⟩
    conv => whnf
    refine ⟨by rfl, ?_⟩
    conv => whnf
    refine ⟨by rfl, ?_⟩
    conv => whnf
    refine ⟨by rfl, ?_⟩
    conv => whnf
    refine ⟨by rfl, ?_⟩
    conv => whnf
    refine ⟨by rfl, ?_⟩
    conv => whnf
    refine ⟨by rfl, ?_⟩
    conv => whnf
    refine ⟨by rfl, ?_⟩
    conv => whnf
    refine ⟨by rfl, ?_⟩
    conv => whnf
    refine ⟨by rfl, ?_⟩
    conv => whnf
    refine ⟨by rfl, ?_⟩
    conv => whnf
    refine ⟨by rfl, ?_⟩
    conv => whnf
    refine ⟨by rfl, ?_⟩
    conv => whnf
    refine ⟨by rfl, ?_⟩
    conv => whnf
    refine ⟨by rfl, ?_⟩
    conv => whnf
    refine ⟨by rfl, ?_⟩
    conv => whnf
    refine ⟨by rfl, ?_⟩
    conv => whnf
    refine ⟨by rfl, ?_⟩
    conv => whnf
    refine ⟨by rfl, ?_⟩
    conv => whnf
    refine ⟨by rfl, ?_⟩
    conv => whnf
    refine ⟨by rfl, ?_⟩
    conv => whnf
    refine ⟨by rfl, ?_⟩
    conv => whnf
    refine ⟨by rfl, ?_⟩
    conv => whnf
    refine ⟨by rfl, ?_⟩
    conv => whnf
    refine ⟨by rfl, ?_⟩
    conv => whnf
    refine ⟨by rfl, ?_⟩
    conv => whnf
    refine ⟨by rfl, ?_⟩
    conv => whnf
    refine ⟨by rfl, ?_⟩
    conv => whnf
    refine ⟨by rfl, ?_⟩
    conv => whnf
    refine ⟨by rfl, ?_⟩
    conv => whnf
    refine ⟨by rfl, ?_⟩
    conv => whnf
    refine ⟨by rfl, ?_⟩
    conv => whnf
    refine ⟨by rfl, ?_⟩
    conv => whnf
    refine ⟨by rfl, ?_⟩
    conv => whnf
    refine ⟨by rfl, ?_⟩
    conv => whnf
    refine ⟨by rfl, ?_⟩
    conv => whnf
    refine ⟨by rfl, ?_⟩
    conv => whnf
    refine ⟨by rfl, ?_⟩
    conv => whnf
    refine ⟨by rfl, ?_⟩
    conv => whnf
    refine ⟨by rfl, ?_⟩
    conv => whnf
    refine ⟨by rfl, ?_⟩
    conv => whnf
    refine ⟨by rfl, ?_⟩
    conv => whnf
    refine ⟨by rfl, ?_⟩
    conv => whnf
    refine ⟨by rfl, ?_⟩
    conv => whnf
    refine ⟨by rfl, ?_⟩
    conv => whnf
    refine ⟨by rfl, ?_⟩
    conv => whnf
    refine ⟨by rfl, ?_⟩
    conv => whnf
    refine ⟨by rfl, ?_⟩
    conv => whnf
    refine ⟨by rfl, ?_⟩
    conv => whnf
    refine ⟨by rfl, ?_⟩
    conv => whnf
    refine ⟨by rfl, ?_⟩
    conv => whnf
    refine ⟨by rfl, ?_⟩
    conv => whnf
    refine ⟨by rfl, ?_⟩
    conv => whnf
    refine ⟨by rfl, ?_⟩
    conv => whnf
    refine ⟨by rfl, ?_⟩
    conv => whnf
    refine ⟨by rfl, ?_⟩
    conv => whnf
    refine ⟨by rfl, ?_⟩
    conv => whnf
    refine ⟨by rfl, ?_⟩
    conv => whnf
    refine ⟨by rfl, ?_⟩
    conv => whnf
    refine ⟨by rfl, ?_⟩
    conv => whnf
    refine ⟨by rfl, ?_⟩
    conv => whnf
    refine ⟨by rfl, ?_⟩
    conv => whnf
    refine ⟨by rfl, ?_⟩
    conv => whnf
    refine ⟨by rfl, ?_⟩
    conv => whnf
    refine ⟨by rfl, ?_⟩
    conv => whnf
    refine ⟨by rfl, ?_⟩
    conv => whnf
    refine ⟨by rfl, ?_⟩
    conv => whnf
    refine ⟨by rfl, ?_⟩
    conv => whnf
    refine ⟨by rfl, ?_⟩
    conv => whnf
    refine ⟨by rfl, ?_⟩
    conv => whnf
    refine ⟨by rfl, ?_⟩
    conv => whnf
    refine ⟨by rfl, ?_⟩
    conv => whnf
    refine ⟨by rfl, ?_⟩
    conv => whnf
    refine ⟨by rfl, ?_⟩
    conv => whnf
    refine ⟨by rfl, ?_⟩
    conv => whnf
    refine ⟨by rfl, ?_⟩
    conv => whnf
    refine ⟨by rfl, ?_⟩
    conv => whnf
    refine ⟨by rfl, ?_⟩
    conv => whnf
    refine ⟨by rfl, ?_⟩
    conv => whnf
    refine ⟨by rfl, ?_⟩
    conv => whnf
    refine ⟨by rfl, ?_⟩
    conv => whnf
    refine ⟨by rfl, ?_⟩
    conv => whnf
    refine ⟨by rfl, ?_⟩
    conv => whnf
    refine ⟨by rfl, ?_⟩
    conv => whnf
    refine ⟨by rfl, ?_⟩
    conv => whnf
    refine ⟨by rfl, ?_⟩
    conv => whnf
    refine ⟨by rfl, ?_⟩
    conv => whnf
    refine ⟨by rfl, ?_⟩
    conv => whnf
    refine ⟨by rfl, ?_⟩
    conv => whnf
    refine ⟨by rfl, ?_⟩
    conv => whnf
    refine ⟨by rfl, ?_⟩
    conv => whnf
    refine ⟨by rfl, ?_⟩
    conv => whnf
    refine ⟨by rfl, ?_⟩
    conv => whnf
    refine ⟨by rfl, ?_⟩
    conv => whnf
    refine ⟨by rfl, ?_⟩
    conv => whnf
    refine ⟨by rfl, ?_⟩
    conv => whnf
    refine ⟨by rfl, ?_⟩
    conv => whnf
    refine ⟨by rfl, ?_⟩
    conv => whnf
    exact trivial
  · intro x
    obtain ⟨hx, hst, h1, h2, h3⟩ := x.2
    generalize hI : x.1.1 = i at *
    generalize hF : x.1.2.1 = f at *
    generalize hR1 : x.1.2.2.1 = r1 at *
    generalize hR2 : x.1.2.2.2.1 = r2 at *
    generalize hR3 : x.1.2.2.2.2 = r3 at *
    have pX : predV 0 0 0 f i false false = (if i < 1 then true else L.getD (i - 1) false) := by unfold predV; rw [if_neg (by decide), if_neg (by decide)]; exact lastV_st hst (by decide) (by decide)
    have pY : predV 1 1 1 f i false false = (if i < 1 then true else L.getD (i - 1) false) := by
      unfold predV; rw [if_pos rfl]
      have := cnt_all hst 1 (by decide)
      simpa [allV] using this
    have pZ : predV 1 (k : Int) (k : Int) f i false false = allF L (i - k) (i - (i - k)) := by
      unfold predV; rw [if_pos rfl, Int.toNat_natCast, cnt_all hst k (by omega)]
      exact allV_F L i k
    conv => whnf
    refine ⟨fun hb => ?_, fun hb => ?_⟩
    · have hb : i < L.length := by rw [hl] at hb; simpa using hb
      have emx : (if (0 : Int) > IntKind.i64.wrap ((i : Int) - (k : Int)) then 0 else IntKind.i64.wrap ((i : Int) - (k : Int))) = ((i - k + 0 : Nat) : Int) := by rw [w64 _ (by omega) (by omega)]; split <;> omega
      conv => whnf
      refine LoopG.inv tab_ok 133 (fun m : { m : Nat // i - k + m ≤ i } => [(0, .rs 1 (bls L)), (5, .int .i64 (k : Int)), (6, .ptr 0 0), (8, .ptr 1 0), (10, .ptr 2 0), (12, .int .i64 (i : Int)), (13, .bool (allF L (i - k) m.1)), (14, .int .i64 ((i - k + m.1 : Nat) : Int))])
        (fun m => [chB 0 0 0 f i r1 false false, chB 1 1 1 f i r2 false false, chB 1 (k : Int) (k : Int) f i r3 false false]) (fun m => i - m.1) ⟨0, by omega⟩ (.of [some 0, some 1, some 2] (by rfl) ?_) ?_
      · conv => whnf
        refine ⟨by rfl, ?_⟩
        conv => whnf
        refine ⟨by rfl, ?_⟩
        conv => whnf
        refine ⟨by rfl, ?_⟩
        conv => whnf
        refine ⟨by rfl, ?_⟩
        conv => whnf
        refine ⟨by omega, ?_⟩
        conv => whnf
        refine ⟨by rfl, ?_⟩
        conv => whnf
        refine ⟨by rfl, ?_⟩
        conv => whnf
        refine ⟨by rfl, ?_⟩
        conv => whnf
        refine ⟨by rfl, ?_⟩
        conv => whnf
        refine ⟨by rfl, ?_⟩
        conv => whnf
        refine ⟨by rfl, ?_⟩
        conv => whnf
        refine ⟨by rfl, ?_⟩
        conv => whnf
        refine ⟨by rfl, ?_⟩
        conv => whnf
        refine ⟨by rfl, ?_⟩
        conv => whnf
        refine ⟨by rfl, ?_⟩
        conv => whnf
        refine ⟨by rfl, ?_⟩
        conv => whnf
        refine ⟨by rfl, ?_⟩
        conv => whnf
        refine ⟨by rfl, ?_⟩
        conv => whnf
        refine ⟨by rfl, ?_⟩
        conv => whnf
        refine ⟨by rfl, ?_⟩
        conv => whnf
        refine ⟨by rfl, ?_⟩
        conv => whnf
        refine ⟨by rfl, ?_⟩
        conv => whnf
        refine ⟨by rfl, ?_⟩
        conv => whnf
        refine ⟨by rfl, ?_⟩
        conv => whnf
        refine ⟨by rfl, ?_⟩
        conv => whnf
        refine ⟨by rfl, ?_⟩
        conv => whnf
        refine ⟨by rfl, ?_⟩
        conv => whnf
        refine ⟨by rfl, ?_⟩
        conv => whnf
        refine ⟨by rfl, ?_⟩
        conv => whnf
        refine ⟨by rfl, ?_⟩
        conv => whnf
        refine ⟨by rfl, ?_⟩
        conv => whnf
        refine ⟨by rfl, ?_⟩
        conv => whnf
        refine ⟨by rfl, ?_⟩
        conv => whnf
        refine ⟨by rfl, ?_⟩
        conv => whnf
        refine ⟨by rfl, ?_⟩
        conv => whnf
        refine ⟨by rfl, ?_⟩
        conv => whnf
        refine ⟨by rfl, ?_⟩
        conv => whnf
        refine ⟨by rfl, ?_⟩
        conv => whnf
        refine ⟨by rfl, ?_⟩
        conv => whnf
        refine ⟨by rfl, ?_⟩
        conv => whnf
        refine ⟨by rfl, ?_⟩
        conv => whnf
        refine ⟨by rfl, ?_⟩
        conv => whnf
        refine ⟨by rfl, ?_⟩
        conv => whnf
        refine ⟨by rfl, ?_⟩
        conv => whnf
        refine ⟨by rfl, ?_⟩
        conv => whnf
        refine ⟨by rfl, ?_⟩
        conv => whnf
        refine ⟨by rfl, ?_⟩
        conv => whnf
        refine ⟨by rfl, ?_⟩
        conv => whnf
        refine ⟨by rfl, ?_⟩
        conv => whnf
        refine ⟨by rfl, ?_⟩
        conv => whnf
        refine ⟨by rfl, ?_⟩
        conv => whnf
        refine ⟨by rfl, ?_⟩
        conv => whnf
        refine ⟨by rfl, ?_⟩
        conv => whnf
        refine ⟨by rfl, ?_⟩
        conv => whnf
        refine ⟨by rfl, ?_⟩
        conv => whnf
        refine ⟨by rfl, ?_⟩
        conv => whnf
        refine ⟨by rfl, ?_⟩
        conv => whnf
        refine ⟨by rfl, ?_⟩
        conv => whnf
        refine ⟨by rfl, ?_⟩
        conv => whnf
        refine ⟨by rfl, ?_⟩
        conv => whnf
        refine ⟨by rfl, ?_⟩
        conv => whnf
        refine ⟨by rfl, ?_⟩
        conv => whnf
        refine ⟨by rfl, ?_⟩
        conv => whnf
        refine ⟨by rfl, ?_⟩
        conv => whnf
        refine ⟨by rfl, ?_⟩
        conv => whnf
        refine ⟨by rfl, ?_⟩
        conv => whnf
        refine ⟨by rfl, ?_⟩
        conv => whnf
        refine ⟨by rfl, ?_⟩
        conv => whnf
        refine ⟨by rfl, ?_⟩
        conv => whnf
        refine ⟨by rfl, ?_⟩
        conv => whnf
        refine ⟨by rfl, ?_⟩
        conv => whnf
        refine ⟨by rfl, ?_⟩
        conv => whnf
        refine ⟨by rfl, ?_⟩
        conv => whnf
        refine ⟨by rfl, ?_⟩
        conv => whnf
        refine ⟨by rfl, ?_⟩
        conv => whnf
        refine ⟨by rfl, ?_⟩
        conv => whnf
        refine ⟨by rfl, ?_⟩
        conv => whnf
        refine ⟨by rfl, ?_⟩
        conv => whnf
        refine ⟨by rfl, ?_⟩
        conv => whnf
        refine ⟨by rfl, ?_⟩
        conv => whnf
        refine ⟨by rfl, ?_⟩
        conv => whnf
        refine ⟨by rfl, ?_⟩
        conv => whnf
        refine ⟨by rfl, ?_⟩
        conv => whnf
        refine ⟨by rfl, ?_⟩
        conv => whnf
        refine ⟨by rfl, ?_⟩
        conv => whnf
        refine ⟨by rfl, ?_⟩
        conv => whnf
        refine ⟨by rfl, ?_⟩
        conv => whnf
        refine ⟨by rfl, ?_⟩
        conv => whnf
        refine ⟨by rfl, ?_⟩
        conv => whnf
        refine ⟨by rfl, ?_⟩
        conv => whnf
        refine ⟨by rfl, ?_⟩
        conv => whnf
        refine ⟨by rfl, ?_⟩
        conv => whnf
        refine ⟨by rfl, ?_⟩
        conv => whnf
        refine ⟨by rfl, ?_⟩
        conv => whnf
        refine ⟨by rfl, ?_⟩
        conv => whnf
        refine ⟨by rfl, ?_⟩
        conv => whnf
        refine ⟨by rfl, ?_⟩
        conv => whnf
        refine ⟨by rfl, ?_⟩
        conv => whnf
        refine ⟨by rfl, ?_⟩
        conv => whnf
        refine ⟨by rfl, ?_⟩
        conv => whnf
        refine ⟨by rfl, ?_⟩
        conv => whnf
        refine ⟨by rfl, ?_⟩
        conv => whnf
        refine ⟨by rfl, ?_⟩
        conv => whnf
        refine ⟨by rfl, ?_⟩
        conv => whnf
        refine ⟨by rfl, ?_⟩
        conv => whnf
        refine ⟨by rfl, ?_⟩
        conv => whnf
        refine ⟨by rfl, ?_⟩
        conv => whnf
        refine ⟨by rfl, ?_⟩
        conv => whnf
        refine ⟨by rfl, ?_⟩
        conv => whnf
        refine ⟨by rfl, ?_⟩
        conv => whnf
        refine ⟨by rfl, ?_⟩
        conv => whnf
        refine ⟨by rfl, ?_⟩
        conv => whnf
        refine ⟨by rfl, ?_⟩
        conv => whnf
        refine ⟨by rfl, ?_⟩
        conv => whnf
        refine ⟨by rfl, ?_⟩
        conv => whnf
        refine ⟨by rfl, ?_⟩
        conv => whnf
        refine ⟨by rfl, ?_⟩
        conv => whnf
        refine ⟨by rfl, ?_⟩
        conv => whnf
        refine ⟨by rfl, ?_⟩
        conv => whnf
        refine ⟨by rfl, ?_⟩
        conv => whnf
        refine ⟨by rfl, ?_⟩
        conv => whnf
        refine ⟨by rfl, ?_⟩
        conv => whnf
        exact trivial
      · intro m
        have hm := m.2
        conv => whnf
        refine ⟨fun hd => ?_, fun hd => ?_⟩
        · have hd : i - k + m.1 < i := by simp only [decide_eq_true_eq] at hd; omega
          have en : ((i - k + m.1 : Nat) : Int) + 1 = ((i - k + (m.1 + 1) : Nat) : Int) := by omega
          have a1 : allF L (i - k) m.1 = true → L.getD (i - k + m.1) false = allF L (i - k) (m.1 + 1) := fun h => by simp [allF, h]
          have a2 : allF L (i - k) m.1 = false → false = allF L (i - k) (m.1 + 1) := fun h => by simp [allF, h]
          conv => whnf
          refine ⟨fun hh0 => ?_, fun hh0 => ?_⟩
          · skip
            conv => whnf
            refine ⟨by omega, ?_⟩
            conv => whnf
            refine ⟨_, bget (i := i - k + m.1) (by omega), ?_⟩
            conv => whnf
            refine ⟨⟨m.1 + 1, by omega⟩, by show i - (m.1 + 1) < i - m.1; omega, .of [some 0, some 1, some 2] (by rfl) ?_⟩
            conv => whnf
            refine ⟨by rfl, ?_⟩
            conv => whnf
            refine ⟨by rfl, ?_⟩
            conv => whnf
            refine ⟨by rfl, ?_⟩
            conv => whnf
            refine ⟨by exact a1 (by assumption), ?_⟩
            conv => whnf
            refine ⟨by exact (w64 _ (by omega) (by omega)).trans (by omega), ?_⟩
            conv => whnf
            refine ⟨by rfl, ?_⟩
            conv => whnf
            refine ⟨by rfl, ?_⟩
            conv => whnf
            refine ⟨by rfl, ?_⟩
            conv => whnf
            refine ⟨by rfl, ?_⟩
            conv => whnf
            refine ⟨by rfl, ?_⟩
            conv => whnf
            refine ⟨by rfl, ?_⟩
            conv => whnf
            refine ⟨by rfl, ?_⟩
            conv => whnf
            refine ⟨by rfl, ?_⟩
            conv => whnf
            refine ⟨by rfl, ?_⟩
            conv => whnf
            refine ⟨by rfl, ?_⟩
            conv => whnf
            refine ⟨by rfl, ?_⟩
            conv => whnf
            refine ⟨by rfl, ?_⟩
            conv => whnf
            refine ⟨by rfl, ?_⟩
            conv => whnf
            refine ⟨by rfl, ?_⟩
            conv => whnf
            refine ⟨by rfl, ?_⟩
            conv => whnf
            refine ⟨by rfl, ?_⟩
            conv => whnf
            refine ⟨by rfl, ?_⟩
            conv => whnf
            refine ⟨by rfl, ?_⟩
            conv => whnf
            refine ⟨by rfl, ?_⟩
            conv => whnf
            refine ⟨by rfl, ?_⟩
            conv => whnf
            refine ⟨by rfl, ?_⟩
            conv => whnf
            refine ⟨by rfl, ?_⟩
            conv => whnf
            refine ⟨by rfl, ?_⟩
            conv => whnf
            refine ⟨by rfl, ?_⟩
            conv => whnf
            refine ⟨by rfl, ?_⟩
            conv => whnf
            refine ⟨by rfl, ?_⟩
            conv => whnf
            refine ⟨by rfl, ?_⟩
            conv => whnf
            refine ⟨by rfl, ?_⟩
            conv => whnf
            refine ⟨by rfl, ?_⟩
            conv => whnf
            refine ⟨by rfl, ?_⟩
            conv => whnf
            refine ⟨by rfl, ?_⟩
            conv => whnf
            refine ⟨by rfl, ?_⟩
            conv => whnf
            refine ⟨by rfl, ?_⟩
            conv => whnf
            refine ⟨by rfl, ?_⟩
            conv => whnf
            refine ⟨by rfl, ?_⟩
            conv => whnf
            refine ⟨by rfl, ?_⟩
            conv => whnf
            refine ⟨by rfl, ?_⟩
            conv => whnf
            refine ⟨by rfl, ?_⟩
            conv => whnf
            refine ⟨by rfl, ?_⟩
            conv => whnf
            refine ⟨by rfl, ?_⟩
            conv => whnf
            refine ⟨by rfl, ?_⟩
            conv => whnf
            refine ⟨by rfl, ?_⟩
            conv => whnf
            refine ⟨by rfl, ?_⟩
            conv => whnf
            refine ⟨by rfl, ?_⟩
            conv => whnf
            refine ⟨by rfl, ?_⟩
            conv => whnf
            refine ⟨by rfl, ?_⟩
            conv => whnf
            refine ⟨by rfl, ?_⟩
            conv => whnf
            refine ⟨by rfl, ?_⟩
            conv => whnf
            refine ⟨by rfl, ?_⟩
            conv => whnf
            refine ⟨by rfl, ?_⟩
            conv => whnf
            refine ⟨by rfl, ?_⟩
            conv => whnf
            refine ⟨by rfl, ?_⟩
            conv => whnf
            refine ⟨by rfl, ?_⟩
            conv => whnf
            refine ⟨by rfl, ?_⟩
            conv => whnf
            refine ⟨by rfl, ?_⟩
            conv => whnf
            refine ⟨by rfl, ?_⟩
            conv => whnf
            refine ⟨by rfl, ?_⟩
            conv => whnf
            refine ⟨by rfl, ?_⟩
            conv => whnf
            refine ⟨by rfl, ?_⟩
            conv => whnf
            refine ⟨by rfl, ?_⟩
            conv => whnf
            refine ⟨by rfl, ?_⟩
            conv => whnf
            refine ⟨by rfl, ?_⟩
            conv => whnf
            refine ⟨by rfl, ?_⟩
            conv => whnf
            refine ⟨by rfl, ?_⟩
            conv => whnf
            refine ⟨by rfl, ?_⟩
            conv => whnf
            refine ⟨by rfl, ?_⟩
            conv => whnf
            refine ⟨by rfl, ?_⟩
            conv => whnf
            refine ⟨by rfl, ?_⟩
            conv => whnf
            refine ⟨by rfl, ?_⟩
            conv => whnf
            refine ⟨by rfl, ?_⟩
            conv => whnf
            refine ⟨by rfl, ?_⟩
            conv => whnf
            refine ⟨by rfl, ?_⟩
            conv => whnf
            refine ⟨by rfl, ?_⟩
            conv => whnf
            refine ⟨by rfl, ?_⟩
            conv => whnf
            refine ⟨by rfl, ?_⟩
            conv => whnf
            refine ⟨by rfl, ?_⟩
            conv => whnf
            refine ⟨by rfl, ?_⟩
            conv => whnf
            refine ⟨by rfl, ?_⟩
            conv => whnf
            refine ⟨by rfl, ?_⟩
            conv => whnf
            refine ⟨by rfl, ?_⟩
            conv => whnf
            refine ⟨by rfl, ?_⟩
            conv => whnf
            refine ⟨by rfl, ?_⟩
            conv => whnf
            refine ⟨by rfl, ?_⟩
            conv => whnf
            refine ⟨by rfl, ?_⟩
            conv => whnf
            refine ⟨by rfl, ?_⟩
            conv => whnf
            refine ⟨by rfl, ?_⟩
            conv => whnf
            refine ⟨by rfl, ?_⟩
            conv => whnf
            refine ⟨by rfl, ?_⟩
            conv => whnf
            refine ⟨by rfl, ?_⟩
            conv => whnf
            refine ⟨by rfl, ?_⟩
            conv => whnf
            refine ⟨by rfl, ?_⟩
            conv => whnf
            refine ⟨by rfl, ?_⟩
            conv => whnf
            refine ⟨by rfl, ?_⟩
            conv => whnf
            refine ⟨by rfl, ?_⟩
            conv => whnf
            refine ⟨by rfl, ?_⟩
            conv => whnf
            refine ⟨by rfl, ?_⟩
            conv => whnf
            refine ⟨by rfl, ?_⟩
            conv => whnf
            refine ⟨by rfl, ?_⟩
            conv => whnf
            refine ⟨by rfl, ?_⟩
            conv => whnf
            refine ⟨by rfl, ?_⟩
            conv => whnf
            refine ⟨by rfl, ?_⟩
            conv => whnf
            refine ⟨by rfl, ?_⟩
            conv => whnf
            refine ⟨by rfl, ?_⟩
            conv => whnf
            refine ⟨by rfl, ?_⟩
            conv => whnf
            refine ⟨by rfl, ?_⟩
            conv => whnf
            refine ⟨by rfl, ?_⟩
            conv => whnf
            refine ⟨by rfl, ?_⟩
            conv => whnf
            refine ⟨by rfl, ?_⟩
            conv => whnf
            refine ⟨by rfl, ?_⟩
            conv => whnf
            refine ⟨by rfl, ?_⟩
            conv => whnf
            refine ⟨by rfl, ?_⟩
            conv => whnf
            refine ⟨by rfl, ?_⟩
            conv => whnf
            refine ⟨by rfl, ?_⟩
            conv => whnf
            refine ⟨by rfl, ?_⟩
            conv => whnf
            refine ⟨by rfl, ?_⟩
            conv => whnf
            refine ⟨by rfl, ?_⟩
            conv => whnf
            refine ⟨by rfl, ?_⟩
            conv => whnf
            exact trivial
          · skip
            conv => whnf
            refine ⟨⟨m.1 + 1, by omega⟩, by show i - (m.1 + 1) < i - m.1; omega, .of [some 0, some 1, some 2] (by rfl) ?_⟩
            conv => whnf
            refine ⟨by rfl, ?_⟩
            conv => whnf
            refine ⟨by rfl, ?_⟩
            conv => whnf
            refine ⟨by rfl, ?_⟩
            conv => whnf
            refine ⟨by simp [*], ?_⟩
            conv => whnf
            refine ⟨by exact (w64 _ (by omega) (by omega)).trans (by omega), ?_⟩
            conv => whnf
            refine ⟨by rfl, ?_⟩
            conv => whnf
            refine ⟨by rfl, ?_⟩
            conv => whnf
            refine ⟨by rfl, ?_⟩
            conv => whnf
            refine ⟨by rfl, ?_⟩
            conv => whnf
            refine ⟨by rfl, ?_⟩
            conv => whnf
            refine ⟨by rfl, ?_⟩
            conv => whnf
            refine ⟨by rfl, ?_⟩
            conv => whnf
            refine ⟨by rfl, ?_⟩
            conv => whnf
            refine ⟨by rfl, ?_⟩
            conv => whnf
            refine ⟨by rfl, ?_⟩
            conv => whnf
            refine ⟨by rfl, ?_⟩
            conv => whnf
            refine ⟨by rfl, ?_⟩
            conv => whnf
            refine ⟨by rfl, ?_⟩
            conv => whnf
            refine ⟨by rfl, ?_⟩
            conv => whnf
            refine ⟨by rfl, ?_⟩
            conv => whnf
            refine ⟨by rfl, ?_⟩
            conv => whnf
            refine ⟨by rfl, ?_⟩
            conv => whnf
            refine ⟨by rfl, ?_⟩
            conv => whnf
            refine ⟨by rfl, ?_⟩
            conv => whnf
            refine ⟨by rfl, ?_⟩
            conv => whnf
            refine ⟨by rfl, ?_⟩
            conv => whnf
            refine ⟨by rfl, ?_⟩
            conv => whnf
            refine ⟨by rfl, ?_⟩
            conv => whnf
            refine ⟨by rfl, ?_⟩
            conv => whnf
            refine ⟨by rfl, ?_⟩
            conv => whnf
            refine ⟨by rfl, ?_⟩
            conv => whnf
            refine ⟨by rfl, ?_⟩
            conv => whnf
            refine ⟨by rfl, ?_⟩
            conv => whnf
            refine ⟨by rfl, ?_⟩
            conv => whnf
            refine ⟨by rfl, ?_⟩
            conv => whnf
            refine ⟨by rfl, ?_⟩
            conv => whnf
            refine ⟨by rfl, ?_⟩
            conv => whnf
            refine ⟨by rfl, ?_⟩
            conv => whnf
            refine ⟨by rfl, ?_⟩
            conv => whnf
            refine ⟨by rfl, ?_⟩
            conv => whnf
            refine ⟨by rfl, ?_⟩
            conv => whnf
            refine ⟨by rfl, ?_⟩
            conv => whnf
            refine ⟨by rfl, ?_⟩
            conv => whnf
            refine ⟨by rfl, ?_⟩
            conv => whnf
            refine ⟨by rfl, ?_⟩
            conv => whnf
            refine ⟨by rfl, ?_⟩
            conv => whnf
            refine ⟨by rfl, ?_⟩
            conv => whnf
            refine ⟨by rfl, ?_⟩
            conv => whnf
            refine ⟨by rfl, ?_⟩
            conv => whnf
            refine ⟨by rfl, ?_⟩
            conv => whnf
            refine ⟨by rfl, ?_⟩
            conv => whnf
            refine ⟨by rfl, ?_⟩
            conv => whnf
            refine ⟨by rfl, ?_⟩
            conv => whnf
            refine ⟨by rfl, ?_⟩
            conv => whnf
            refine ⟨by rfl, ?_⟩
            conv => whnf
            refine ⟨by rfl, ?_⟩
            conv => whnf
            refine ⟨by rfl, ?_⟩
            conv => whnf
            refine ⟨by rfl, ?_⟩
            conv => whnf
            refine ⟨by rfl, ?_⟩
            conv => whnf
            refine ⟨by rfl, ?_⟩
            conv => whnf
            refine ⟨by rfl, ?_⟩
            conv => whnf
            refine ⟨by rfl, ?_⟩
            conv => whnf
            refine ⟨by rfl, ?_⟩
            conv => whnf
            refine ⟨by rfl, ?_⟩
            conv => whnf
            refine ⟨by rfl, ?_⟩
            conv => whnf
            refine ⟨by rfl, ?_⟩
            conv => whnf
            refine ⟨by rfl, ?_⟩
            conv => whnf
            refine ⟨by rfl, ?_⟩
            conv => whnf
            refine ⟨by rfl, ?_⟩
            conv => whnf
            refine ⟨by rfl, ?_⟩
            conv => whnf
            refine ⟨by rfl, ?_⟩
            conv => whnf
            refine ⟨by rfl, ?_⟩
            conv => whnf
            refine ⟨by rfl, ?_⟩
            conv => whnf
            refine ⟨by rfl, ?_⟩
            conv => whnf
            refine ⟨by rfl, ?_⟩
            conv => whnf
            refine ⟨by rfl, ?_⟩
            conv => whnf
            refine ⟨by rfl, ?_⟩
            conv => whnf
            refine ⟨by rfl, ?_⟩
            conv => whnf
            refine ⟨by rfl, ?_⟩
            conv => whnf
            refine ⟨by rfl, ?_⟩
            conv => whnf
            refine ⟨by rfl, ?_⟩
            conv => whnf
            refine ⟨by rfl, ?_⟩
            conv => whnf
            refine ⟨by rfl, ?_⟩
            conv => whnf
            refine ⟨by rfl, ?_⟩
            conv => whnf
            refine ⟨by rfl, ?_⟩
            conv => whnf
            refine ⟨by rfl, ?_⟩
            conv => whnf
            refine ⟨by rfl, ?_⟩
            conv => whnf
            refine ⟨by rfl, ?_⟩
            conv => whnf
            refine ⟨by rfl, ?_⟩
            conv => whnf
            refine ⟨by rfl, ?_⟩
            conv => whnf
            refine ⟨by rfl, ?_⟩
            conv => whnf
            refine ⟨by rfl, ?_⟩
            conv => whnf
            refine ⟨by rfl, ?_⟩
            conv => whnf
            refine ⟨by rfl, ?_⟩
            conv => whnf
            refine ⟨by rfl, ?_⟩
            conv => whnf
            refine ⟨by rfl, ?_⟩
            conv => whnf
            refine ⟨by rfl, ?_⟩
            conv => whnf
            refine ⟨by rfl, ?_⟩
            conv => whnf
            refine ⟨by rfl, ?_⟩
            conv => whnf
            refine ⟨by rfl, ?_⟩
            conv => whnf
            refine ⟨by rfl, ?_⟩
            conv => whnf
            refine ⟨by rfl, ?_⟩
            conv => whnf
            refine ⟨by rfl, ?_⟩
            conv => whnf
            refine ⟨by rfl, ?_⟩
            conv => whnf
            refine ⟨by rfl, ?_⟩
            conv => whnf
            refine ⟨by rfl, ?_⟩
            conv => whnf
            refine ⟨by rfl, ?_⟩
            conv => whnf
            refine ⟨by rfl, ?_⟩
            conv => whnf
            refine ⟨by rfl, ?_⟩
            conv => whnf
            refine ⟨by rfl, ?_⟩
            conv => whnf
            refine ⟨by rfl, ?_⟩
            conv => whnf
            refine ⟨by rfl, ?_⟩
            conv => whnf
            refine ⟨by rfl, ?_⟩
            conv => whnf
            refine ⟨by rfl, ?_⟩
            conv => whnf
            refine ⟨by rfl, ?_⟩
            conv => whnf
            refine ⟨by rfl, ?_⟩
            conv => whnf
            refine ⟨by rfl, ?_⟩
            conv => whnf
            refine ⟨by rfl, ?_⟩
            conv => whnf
            refine ⟨by rfl, ?_⟩
            conv => whnf
            refine ⟨by rfl, ?_⟩
            conv => whnf
            refine ⟨by rfl, ?_⟩
            conv => whnf
            refine ⟨by rfl, ?_⟩
            conv => whnf
            exact trivial
        · have hd : m.1 = i - (i - k) := by simp only [decide_eq_false_iff_not] at hd; omega
          rw [hd]
          by_cases hz : i = 0
          · have pX0 : predV 0 0 0 f i false false = true := by rw [pX, if_pos (by omega)]
            conv => whnf
            refine .same ?_
            conv => whnf
            refine (predict_s _ _ _ (by first | omega | exact ⟨by omega, by omega⟩ | assumption | decide | simp) _ _ _ _ _ (by first | omega | exact ⟨by omega, by omega⟩ | assumption | decide | simp)).call [0] (by decide) trivial (And.intro rfl trivial) ?_
            rintro _ _ ⟨rfl, rfl⟩
            conv => whnf
            refine (predict_s _ _ _ (by first | omega | exact ⟨by omega, by omega⟩ | assumption | decide | simp) _ _ _ _ _ (by first | omega | exact ⟨by omega, by omega⟩ | assumption | decide | simp)).call [1] (by decide) trivial (And.intro rfl trivial) ?_
            rintro _ _ ⟨rfl, rfl⟩
            conv => whnf
            refine both_f (by rw [pX, pY]; simp) ?_
            conv => whnf
            refine (predict_s _ _ _ (by first | omega | exact ⟨by omega, by omega⟩ | assumption | decide | simp) _ _ _ _ _ (by first | omega | exact ⟨by omega, by omega⟩ | assumption | decide | simp)).call [0] (by decide) trivial (And.intro rfl trivial) ?_
            rintro _ _ ⟨rfl, rfl⟩
            conv => whnf
            refine both_t (by simp; omega) ?_
            conv => whnf
            refine both_f (by simp; omega) ?_
            conv => whnf
            refine (predict_s _ _ _ (by first | omega | exact ⟨by omega, by omega⟩ | assumption | decide | simp) _ _ _ _ _ (by first | omega | exact ⟨by omega, by omega⟩ | assumption | decide | simp)).call [2] (by decide) trivial (And.intro rfl trivial) ?_
            rintro _ _ ⟨rfl, rfl⟩
            conv => whnf
            refine both_f (by simp; omega) ?_
            conv => whnf
            refine ⟨by omega, ?_⟩
            conv => whnf
            refine ⟨_, bget hb, ?_⟩
            conv => whnf
            refine (observe_s _ _ _ (by first | omega | exact ⟨by omega, by omega⟩ | assumption | decide | simp) _ _ _ _ _ _ (by first | omega | exact ⟨by omega, by omega⟩ | assumption | decide | simp) (by first | omega | exact ⟨by omega, by omega⟩ | assumption | decide | simp)).call [0] (by rfl) (And.intro rfl trivial) (And.intro rfl (And.intro rfl (And.intro rfl (And.intro rfl (And.intro rfl (And.intro rfl (And.intro rfl (And.intro rfl (And.intro rfl (And.intro rfl (And.intro rfl (And.intro rfl (And.intro rfl (And.intro rfl (And.intro rfl (And.intro rfl (And.intro rfl (And.intro rfl (And.intro rfl (And.intro rfl (And.intro rfl (And.intro rfl (And.intro rfl (And.intro rfl (And.intro rfl (And.intro rfl (And.intro rfl (And.intro rfl (And.intro rfl (And.intro rfl (And.intro rfl (And.intro rfl (And.intro rfl (And.intro rfl (And.intro rfl (And.intro rfl (And.intro rfl (And.intro rfl (And.intro rfl trivial))))))))))))))))))))))))))))))))))))))) ?_
            rintro _ _ ⟨rfl, rfl⟩
            conv => whnf
            refine ⟨by omega, ?_⟩
            conv => whnf
            refine ⟨_, bget hb, ?_⟩
            conv => whnf
            refine (observe_s _ _ _ (by first | omega | exact ⟨by omega, by omega⟩ | assumption | decide | simp) _ _ _ _ _ _ (by first | omega | exact ⟨by omega, by omega⟩ | assumption | decide | simp) (by first | omega | exact ⟨by omega, by omega⟩ | assumption | decide | simp)).call [1] (by rfl) (And.intro rfl trivial) (And.intro rfl (And.intro rfl (And.intro rfl (And.intro rfl (And.intro rfl (And.intro rfl (And.intro rfl (And.intro rfl (And.intro rfl (And.intro rfl (And.intro rfl (And.intro rfl (And.intro rfl (And.intro rfl (And.intro rfl (And.intro rfl (And.intro rfl (And.intro rfl (And.intro rfl (And.intro rfl (And.intro rfl (And.intro rfl (And.intro rfl (And.intro rfl (And.intro rfl (And.intro rfl (And.intro rfl (And.intro rfl (And.intro rfl (And.intro rfl (And.intro rfl (And.intro rfl (And.intro rfl (And.intro rfl (And.intro rfl (And.intro rfl (And.intro rfl (And.intro rfl (And.intro rfl trivial))))))))))))))))))))))))))))))))))))))) ?_
            rintro _ _ ⟨rfl, rfl⟩
            conv => whnf
            refine ⟨by omega, ?_⟩
            conv => whnf
            refine ⟨_, bget hb, ?_⟩
            conv => whnf
            refine (observe_s _ _ _ (by first | omega | exact ⟨by omega, by omega⟩ | assumption | decide | simp) _ _ _ _ _ _ (by first | omega | exact ⟨by omega, by omega⟩ | assumption | decide | simp) (by first | omega | exact ⟨by omega, by omega⟩ | assumption | decide | simp)).call [2] (by rfl) (And.intro rfl trivial) (And.intro rfl (And.intro rfl (And.intro rfl (And.intro rfl (And.intro rfl (And.intro rfl (And.intro rfl (And.intro rfl (And.intro rfl (And.intro rfl (And.intro rfl (And.intro rfl (And.intro rfl (And.intro rfl (And.intro rfl (And.intro rfl (And.intro rfl (And.intro rfl (And.intro rfl (And.intro rfl (And.intro rfl (And.intro rfl (And.intro rfl (And.intro rfl (And.intro rfl (And.intro rfl (And.intro rfl (And.intro rfl (And.intro rfl (And.intro rfl (And.intro rfl (And.intro rfl (And.intro rfl (And.intro rfl (And.intro rfl (And.intro rfl (And.intro rfl (And.intro rfl (And.intro rfl trivial))))))))))))))))))))))))))))))))))))))) ?_
            rintro _ _ ⟨rfl, rfl⟩
            conv => whnf
            refine ⟨⟨(i + 1, upd f (i % 32) (L.getD i false), if predV 0 0 0 f i false false = L.getD i false then r1 + 1 else r1, if predV 1 1 1 f i false false = L.getD i false then r2 + 1 else r2, if predV 1 (k : Int) (k : Int) f i false false = L.getD i false then r3 + 1 else r3), by show i + 1 ≤ L.length; omega, stO_upd hst, ri h1 _, ri h2 _, ri h3 _⟩, by show L.length - (i + 1) < L.length - x.1.1; omega, .of [some 0, some 1, some 2] (by rfl) ?_⟩
            conv => whnf
            refine ⟨by rfl, ?_⟩
            conv => whnf
            refine ⟨by rfl, ?_⟩
            conv => whnf
            refine ⟨by exact (w64 _ (by omega) (by omega)).trans (by simp), ?_⟩
            conv => whnf
            refine ⟨by rfl, ?_⟩
            conv => whnf
            refine ⟨by rfl, ?_⟩
            conv => whnf
            refine ⟨by rfl, ?_⟩
            conv => whnf
            refine ⟨by rfl, ?_⟩
            conv => whnf
            refine ⟨by rfl, ?_⟩
            conv => whnf
            refine ⟨by rfl, ?_⟩
            conv => whnf
            refine ⟨by rfl, ?_⟩
            conv => whnf
            refine ⟨by rfl, ?_⟩
            conv => whnf
            refine ⟨by rfl, ?_⟩
            conv => whnf
            refine ⟨by rfl, ?_⟩
            conv => whnf
            refine ⟨by rfl, ?_⟩
            conv => whnf
            refine ⟨by rfl, ?_⟩
            conv => whnf
            refine ⟨by rfl, ?_⟩
            conv => whnf
            refine ⟨by rfl, ?_⟩
            conv => whnf
            refine ⟨by rfl, ?_⟩
            conv => whnf
            refine ⟨by rfl, ?_⟩
            conv => whnf
            refine ⟨by rfl, ?_⟩
            conv => whnf
            refine ⟨by rfl, ?_⟩
            conv => whnf
            refine ⟨by rfl, ?_⟩
            conv => whnf
            refine ⟨by rfl, ?_⟩
            conv => whnf
            refine ⟨by rfl, ?_⟩
            conv => whnf
            refine ⟨by rfl, ?_⟩
            conv => whnf
            refine ⟨by rfl, ?_⟩
            conv => whnf
            refine ⟨by rfl, ?_⟩
            conv => whnf
            refine ⟨by rfl, ?_⟩
            conv => whnf
            refine ⟨by rfl, ?_⟩
            conv => whnf
            refine ⟨by rfl, ?_⟩
            conv => whnf
            refine ⟨by rfl, ?_⟩
            conv => whnf
            refine ⟨by rfl, ?_⟩
            conv => whnf
            refine ⟨by rfl, ?_⟩
            conv => whnf
            refine ⟨by rfl, ?_⟩
            conv => whnf
            refine ⟨by rfl, ?_⟩
            conv => whnf
            refine ⟨by rfl, ?_⟩
            conv => whnf
            refine ⟨by rfl, ?_⟩
            conv => whnf
            refine ⟨by rfl, ?_⟩
            conv => whnf
            refine ⟨by rfl, ?_⟩
            conv => whnf
            refine ⟨by rfl, ?_⟩
            conv => whnf
            refine ⟨by rfl, ?_⟩
            conv => whnf
            refine ⟨by rfl, ?_⟩
            conv => whnf
            refine ⟨by rfl, ?_⟩
            conv => whnf
            refine ⟨by rfl, ?_⟩
            conv => whnf
            refine ⟨by rfl, ?_⟩
            conv => whnf
            refine ⟨by rfl, ?_⟩
            conv => whnf
            refine ⟨by rfl, ?_⟩
            conv => whnf
            refine ⟨by rfl, ?_⟩
            conv => whnf
            refine ⟨by rfl, ?_⟩
            conv => whnf
            refine ⟨by rfl, ?_⟩
            conv => whnf
            refine ⟨by rfl, ?_⟩
            conv => whnf
            refine ⟨by rfl, ?_⟩
            conv => whnf
            refine ⟨by rfl, ?_⟩
            conv => whnf
            refine ⟨by rfl, ?_⟩
            conv => whnf
            refine ⟨by rfl, ?_⟩
            conv => whnf
            refine ⟨by rfl, ?_⟩
            conv => whnf
            refine ⟨by rfl, ?_⟩
            conv => whnf
            refine ⟨by rfl, ?_⟩
            conv => whnf
            refine ⟨by rfl, ?_⟩
            conv => whnf
            refine ⟨by rfl, ?_⟩
            conv => whnf
            refine ⟨by rfl, ?_⟩
            conv => whnf
            refine ⟨by rfl, ?_⟩
            conv => whnf
            refine ⟨by rfl, ?_⟩
            conv => whnf
            refine ⟨by rfl, ?_⟩
            conv => whnf
            refine ⟨by rfl, ?_⟩
            conv => whnf
            refine ⟨by rfl, ?_⟩
            conv => whnf
            refine ⟨by rfl, ?_⟩
            conv => whnf
            refine ⟨by rfl, ?_⟩
            conv => whnf
            refine ⟨by rfl, ?_⟩
            conv => whnf
            refine ⟨by rfl, ?_⟩
            conv => whnf
            refine ⟨by rfl, ?_⟩
            conv => whnf
            refine ⟨by rfl, ?_⟩
            conv => whnf
            refine ⟨by rfl, ?_⟩
            conv => whnf
            refine ⟨by rfl, ?_⟩
            conv => whnf
            refine ⟨by rfl, ?_⟩
            conv => whnf
            refine ⟨by rfl, ?_⟩
            conv => whnf
            refine ⟨by rfl, ?_⟩
            conv => whnf
            refine ⟨by rfl, ?_⟩
            conv => whnf
            refine ⟨by rfl, ?_⟩
            conv => whnf
            refine ⟨by rfl, ?_⟩
            conv => whnf
            refine ⟨by rfl, ?_⟩
            conv => whnf
            refine ⟨by rfl, ?_⟩
            conv => whnf
            refine ⟨by rfl, ?_⟩
            conv => whnf
            refine ⟨by rfl, ?_⟩
            conv => whnf
            refine ⟨by rfl, ?_⟩
            conv => whnf
            refine ⟨by rfl, ?_⟩
            conv => whnf
            refine ⟨by rfl, ?_⟩
            conv => whnf
            refine ⟨by rfl, ?_⟩
            conv => whnf
            refine ⟨by rfl, ?_⟩
            conv => whnf
            refine ⟨by rfl, ?_⟩
            conv => whnf
            refine ⟨by rfl, ?_⟩
            conv => whnf
            refine ⟨by rfl, ?_⟩
            conv => whnf
            refine ⟨by rfl, ?_⟩
            conv => whnf
            refine ⟨by rfl, ?_⟩
            conv => whnf
            refine ⟨by rfl, ?_⟩
            conv => whnf
            refine ⟨by rfl, ?_⟩
            conv => whnf
            refine ⟨by rfl, ?_⟩
            conv => whnf
            refine ⟨by rfl, ?_⟩
            conv => whnf
            refine ⟨by rfl, ?_⟩
            conv => whnf
            refine ⟨by rfl, ?_⟩
            conv => whnf
            refine ⟨by rfl, ?_⟩
            conv => whnf
            refine ⟨by rfl, ?_⟩
            conv => whnf
            refine ⟨by rfl, ?_⟩
            conv => whnf
            refine ⟨by rfl, ?_⟩
            conv => whnf
            refine ⟨by rfl, ?_⟩
            conv => whnf
            refine ⟨by rfl, ?_⟩
            conv => whnf
            refine ⟨by rfl, ?_⟩
            conv => whnf
            refine ⟨by rfl, ?_⟩
            conv => whnf
            refine ⟨by rfl, ?_⟩
            conv => whnf
            refine ⟨by rfl, ?_⟩
            conv => whnf
            refine ⟨by rfl, ?_⟩
            conv => whnf
            refine ⟨by rfl, ?_⟩
            conv => whnf
            refine ⟨by rfl, ?_⟩
            conv => whnf
            refine ⟨by rfl, ?_⟩
            conv => whnf
            refine ⟨by rfl, ?_⟩
            conv => whnf
            refine ⟨by rfl, ?_⟩
            conv => whnf
            refine ⟨by rfl, ?_⟩
            conv => whnf
            refine ⟨by rfl, ?_⟩
            conv => whnf
            refine ⟨by rfl, ?_⟩
            conv => whnf
            refine ⟨by rfl, ?_⟩
            conv => whnf
            exact trivial
          · have pX1 : predV 0 0 0 f i false false = L.getD (i - 1) false := by rw [pX, if_neg (by omega)]
            have em1 : (if (0 : Int) > IntKind.i64.wrap ((i : Int) - 1) then 0 else IntKind.i64.wrap ((i : Int) - 1)) = ((i - 1 : Nat) : Int) := by rw [w64 _ (by omega) (by omega)]; split <;> omega
            conv => whnf
            refine .same ?_
            conv => whnf
            refine (predict_s _ _ _ (by first | omega | exact ⟨by omega, by omega⟩ | assumption | decide | simp) _ _ _ _ _ (by first | omega | exact ⟨by omega, by omega⟩ | assumption | decide | simp)).call [0] (by decide) trivial (And.intro rfl trivial) ?_
            rintro _ _ ⟨rfl, rfl⟩
            conv => whnf
            refine (predict_s _ _ _ (by first | omega | exact ⟨by omega, by omega⟩ | assumption | decide | simp) _ _ _ _ _ (by first | omega | exact ⟨by omega, by omega⟩ | assumption | decide | simp)).call [1] (by decide) trivial (And.intro rfl trivial) ?_
            rintro _ _ ⟨rfl, rfl⟩
            conv => whnf
            refine both_f (by simp [*]) ?_
            conv => whnf
            refine (predict_s _ _ _ (by first | omega | exact ⟨by omega, by omega⟩ | assumption | decide | simp) _ _ _ _ _ (by first | omega | exact ⟨by omega, by omega⟩ | assumption | decide | simp)).call [0] (by decide) trivial (And.intro rfl trivial) ?_
            rintro _ _ ⟨rfl, rfl⟩
            conv => whnf
            refine both_f (by simp; omega) ?_
            conv => whnf
            refine ⟨by omega, ?_⟩
            conv => whnf
            refine ⟨_, (by rw [em1]; exact bget (i := i - 1) (by omega)), ?_⟩
            conv => whnf
            refine both_f (by simp [*]) ?_
            conv => whnf
            refine (predict_s _ _ _ (by first | omega | exact ⟨by omega, by omega⟩ | assumption | decide | simp) _ _ _ _ _ (by first | omega | exact ⟨by omega, by omega⟩ | assumption | decide | simp)).call [2] (by decide) trivial (And.intro rfl trivial) ?_
            rintro _ _ ⟨rfl, rfl⟩
            conv => whnf
            refine both_f (by simp; omega) ?_
            conv => whnf
            refine ⟨by omega, ?_⟩
            conv => whnf
            refine ⟨_, bget hb, ?_⟩
            conv => whnf
            refine (observe_s _ _ _ (by first | omega | exact ⟨by omega, by omega⟩ | assumption | decide | simp) _ _ _ _ _ _ (by first | omega | exact ⟨by omega, by omega⟩ | assumption | decide | simp) (by first | omega | exact ⟨by omega, by omega⟩ | assumption | decide | simp)).call [0] (by rfl) (And.intro rfl trivial) (And.intro rfl (And.intro rfl (And.intro rfl (And.intro rfl (And.intro rfl (And.intro rfl (And.intro rfl (And.intro rfl (And.intro rfl (And.intro rfl (And.intro rfl (And.intro rfl (And.intro rfl (And.intro rfl (And.intro rfl (And.intro rfl (And.intro rfl (And.intro rfl (And.intro rfl (And.intro rfl (And.intro rfl (And.intro rfl (And.intro rfl (And.intro rfl (And.intro rfl (And.intro rfl (And.intro rfl (And.intro rfl (And.intro rfl (And.intro rfl (And.intro rfl (And.intro rfl (And.intro rfl (And.intro rfl (And.intro rfl (And.intro rfl (And.intro rfl (And.intro rfl (And.intro rfl trivial))))))))))))))))))))))))))))))))))))))) ?_
            rintro _ _ ⟨rfl, rfl⟩
            conv => whnf
            refine ⟨by omega, ?_⟩
            conv => whnf
            refine ⟨_, bget hb, ?_⟩
            conv => whnf
            refine (observe_s _ _ _ (by first | omega | exact ⟨by omega, by omega⟩ | assumption | decide | simp) _ _ _ _ _ _ (by first | omega | exact ⟨by omega, by omega⟩ | assumption | decide | simp) (by first | omega | exact ⟨by omega, by omega⟩ | assumption | decide | simp)).call [1] (by rfl) (And.intro rfl trivial) (And.intro rfl (And.intro rfl (And.intro rfl (And.intro rfl (And.intro rfl (And.intro rfl (And.intro rfl (And.intro rfl (And.intro rfl (And.intro rfl (And.intro rfl (And.intro rfl (And.intro rfl (And.intro rfl (And.intro rfl (And.intro rfl (And.intro rfl (And.intro rfl (And.intro rfl (And.intro rfl (And.intro rfl (And.intro rfl (And.intro rfl (And.intro rfl (And.intro rfl (And.intro rfl (And.intro rfl (And.intro rfl (And.intro rfl (And.intro rfl (And.intro rfl (And.intro rfl (And.intro rfl (And.intro rfl (And.intro rfl (And.intro rfl (And.intro rfl (And.intro rfl (And.intro rfl trivial))))))))))))))))))))))))))))))))))))))) ?_
            rintro _ _ ⟨rfl, rfl⟩
            conv => whnf
            refine ⟨by omega, ?_⟩
            conv => whnf
            refine ⟨_, bget hb, ?_⟩
            conv => whnf
            refine (observe_s _ _ _ (by first | omega | exact ⟨by omega, by omega⟩ | assumption | decide | simp) _ _ _ _ _ _ (by first | omega | exact ⟨by omega, by omega⟩ | assumption | decide | simp) (by first | omega | exact ⟨by omega, by omega⟩ | assumption | decide | simp)).call [2] (by rfl) (And.intro rfl trivial) (And.intro rfl (And.intro rfl (And.intro rfl (And.intro rfl (And.intro rfl (And.intro rfl (And.intro rfl (And.intro rfl (And.intro rfl (And.intro rfl (And.intro rfl (And.intro rfl (And.intro rfl (And.intro rfl (And.intro rfl (And.intro rfl (And.intro rfl (And.intro rfl (And.intro rfl (And.intro rfl (And.intro rfl (And.intro rfl (And.intro rfl (And.intro rfl (And.intro rfl (And.intro rfl (And.intro rfl (And.intro rfl (And.intro rfl (And.intro rfl (And.intro rfl (And.intro rfl (And.intro rfl (And.intro rfl (And.intro rfl (And.intro rfl (And.intro rfl (And.intro rfl (And.intro rfl trivial))))))))))))))))))))))))))))))))))))))) ?_
            rintro _ _ ⟨rfl, rfl⟩
            conv => whnf
            refine ⟨⟨(i + 1, upd f (i % 32) (L.getD i false), if predV 0 0 0 f i false false = L.getD i false then r1 + 1 else r1, if predV 1 1 1 f i false false = L.getD i false then r2 + 1 else r2, if predV 1 (k : Int) (k : Int) f i false false = L.getD i false then r3 + 1 else r3), by show i + 1 ≤ L.length; omega, stO_upd hst, ri h1 _, ri h2 _, ri h3 _⟩, by show L.length - (i + 1) < L.length - x.1.1; omega, .of [some 0, some 1, some 2] (by rfl) ?_⟩
            conv => whnf
            refine ⟨by rfl, ?_⟩
            conv => whnf
            refine ⟨by rfl, ?_⟩
            conv => whnf
            refine ⟨by exact (w64 _ (by omega) (by omega)).trans (by simp), ?_⟩
            conv => whnf
            refine ⟨by rfl, ?_⟩
            conv => whnf
            refine ⟨by rfl, ?_⟩
            conv => whnf
            refine ⟨by rfl, ?_⟩
            conv => whnf
            refine ⟨by rfl, ?_⟩
            conv => whnf
            refine ⟨by rfl, ?_⟩
            conv => whnf
            refine ⟨by rfl, ?_⟩
            conv => whnf
            refine ⟨by rfl, ?_⟩
            conv => whnf
            refine ⟨by rfl, ?_⟩
            conv => whnf
            refine ⟨by rfl, ?_⟩
            conv => whnf
            refine ⟨by rfl, ?_⟩
            conv => whnf
            refine ⟨by rfl, ?_⟩
            conv => whnf
            refine ⟨by rfl, ?_⟩
            conv => whnf
            refine ⟨by rfl, ?_⟩
            conv => whnf
            refine ⟨by rfl, ?_⟩
            conv => whnf
            refine ⟨by rfl, ?_⟩
            conv => whnf
            refine ⟨by rfl, ?_⟩
            conv => whnf
            refine ⟨by rfl, ?_⟩
            conv => whnf
            refine ⟨by rfl, ?_⟩
            conv => whnf
            refine ⟨by rfl, ?_⟩
            conv => whnf
            refine ⟨by rfl, ?_⟩
            conv => whnf
            refine ⟨by rfl, ?_⟩
            conv => whnf
            refine ⟨by rfl, ?_⟩
            conv => whnf
            refine ⟨by rfl, ?_⟩
            conv => whnf
            refine ⟨by rfl, ?_⟩
            conv => whnf
            refine ⟨by rfl, ?_⟩
            conv => whnf
            refine ⟨by rfl, ?_⟩
            conv => whnf
            refine ⟨by rfl, ?_⟩
            conv => whnf
            refine ⟨by rfl, ?_⟩
            conv => whnf
            refine ⟨by rfl, ?_⟩
            conv => whnf
            refine ⟨by rfl, ?_⟩
            conv => whnf
            refine ⟨by rfl, ?_⟩
            conv => whnf
            refine ⟨by rfl, ?_⟩
            conv => whnf
            refine ⟨by rfl, ?_⟩
            conv => whnf
            refine ⟨by rfl, ?_⟩
            conv => whnf
            refine ⟨by rfl, ?_⟩
            conv => whnf
            refine ⟨by rfl, ?_⟩
            conv => whnf
            refine ⟨by rfl, ?_⟩
            conv => whnf
            refine ⟨by rfl, ?_⟩
            conv => whnf
            refine ⟨by rfl, ?_⟩
            conv => whnf
            refine ⟨by rfl, ?_⟩
            conv => whnf
            refine ⟨by rfl, ?_⟩
            conv => whnf
            refine ⟨by rfl, ?_⟩
            conv => whnf
            refine ⟨by rfl, ?_⟩
            conv => whnf
            refine ⟨by rfl, ?_⟩
            conv => whnf
            refine ⟨by rfl, ?_⟩
            conv => whnf
            refine ⟨by rfl, ?_⟩
            conv => whnf
            refine ⟨by rfl, ?_⟩
            conv => whnf
            refine ⟨by rfl, ?_⟩
            conv => whnf
            refine ⟨by rfl, ?_⟩
            conv => whnf
            refine ⟨by rfl, ?_⟩
            conv => whnf
            refine ⟨by rfl, ?_⟩
            conv => whnf
            refine ⟨by rfl, ?_⟩
            conv => whnf
            refine ⟨by rfl, ?_⟩
            conv => whnf
            refine ⟨by rfl, ?_⟩
            conv => whnf
            refine ⟨by rfl, ?_⟩
            conv => whnf
            refine ⟨by rfl, ?_⟩
            conv => whnf
            refine ⟨by rfl, ?_⟩
            conv => whnf
            refine ⟨by rfl, ?_⟩
            conv => whnf
            refine ⟨by rfl, ?_⟩
            conv => whnf
            refine ⟨by rfl, ?_⟩
            conv => whnf
            refine ⟨by rfl, ?_⟩
            conv => whnf
            refine ⟨by rfl, ?_⟩
            conv => whnf
            refine ⟨by rfl, ?_⟩
            conv => whnf
            refine ⟨by rfl, ?_⟩
            conv => whnf
            refine ⟨by rfl, ?_⟩
            conv => whnf
            refine ⟨by rfl, ?_⟩
            conv => whnf
            refine ⟨by rfl, ?_⟩
            conv => whnf
            refine ⟨by rfl, ?_⟩
            conv => whnf
            refine ⟨by rfl, ?_⟩
            conv => whnf
            refine ⟨by rfl, ?_⟩
            conv => whnf
            refine ⟨by rfl, ?_⟩
            conv => whnf
            refine ⟨by rfl, ?_⟩
            conv => whnf
            refine ⟨by rfl, ?_⟩
            conv => whnf
            refine ⟨by rfl, ?_⟩
            conv => whnf
            refine ⟨by rfl, ?_⟩
            conv => whnf
            refine ⟨by rfl, ?_⟩
            conv => whnf
            refine ⟨by rfl, ?_⟩
            conv => whnf
            refine ⟨by rfl, ?_⟩
            conv => whnf
            refine ⟨by rfl, ?_⟩
            conv => whnf
            refine ⟨by rfl, ?_⟩
            conv => whnf
            refine ⟨by rfl, ?_⟩
            conv => whnf
            refine ⟨by rfl, ?_⟩
            conv => whnf
            refine ⟨by rfl, ?_⟩
            conv => whnf
            refine ⟨by rfl, ?_⟩
            conv => whnf
            refine ⟨by rfl, ?_⟩
            conv => whnf
            refine ⟨by rfl, ?_⟩
            conv => whnf
            refine ⟨by rfl, ?_⟩
            conv => whnf
            refine ⟨by rfl, ?_⟩
            conv => whnf
            refine ⟨by rfl, ?_⟩
            conv => whnf
            refine ⟨by rfl, ?_⟩
            conv => whnf
            refine ⟨by rfl, ?_⟩
            conv => whnf
            refine ⟨by rfl, ?_⟩
            conv => whnf
            refine ⟨by rfl, ?_⟩
            conv => whnf
            refine ⟨by rfl, ?_⟩
            conv => whnf
            refine ⟨by rfl, ?_⟩
            conv => whnf
            refine ⟨by rfl, ?_⟩
            conv => whnf
            refine ⟨by rfl, ?_⟩
            conv => whnf
            refine ⟨by rfl, ?_⟩
            conv => whnf
            refine ⟨by rfl, ?_⟩
            conv => whnf
            refine ⟨by rfl, ?_⟩
            conv => whnf
            refine ⟨by rfl, ?_⟩
            conv => whnf
            refine ⟨by rfl, ?_⟩
            conv => whnf
            refine ⟨by rfl, ?_⟩
            conv => whnf
            refine ⟨by rfl, ?_⟩
            conv => whnf
            refine ⟨by rfl, ?_⟩
            conv => whnf
            refine ⟨by rfl, ?_⟩
            conv => whnf
            refine ⟨by rfl, ?_⟩
            conv => whnf
            refine ⟨by rfl, ?_⟩
            conv => whnf
            refine ⟨by rfl, ?_⟩
            conv => whnf
            refine ⟨by rfl, ?_⟩
            conv => whnf
            refine ⟨by rfl, ?_⟩
            conv => whnf
            refine ⟨by rfl, ?_⟩
            conv => whnf
            refine ⟨by rfl, ?_⟩
            conv => whnf
            refine ⟨by rfl, ?_⟩
            conv => whnf
            refine ⟨by rfl, ?_⟩
            conv => whnf
            refine ⟨by rfl, ?_⟩
            conv => whnf
            refine ⟨by rfl, ?_⟩
            conv => whnf
            exact trivial
    · conv => whnf
      refine .same ?_
      conv => whnf
      refine (awake15_s).call ?_
      rintro _ rfl
      conv => whnf
end Go.Proofs.Ythlomoacacebeac
