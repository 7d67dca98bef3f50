/- The example of chapter 26; the statement BoundKeep as a contract. -/
import Derived.Test.YthlomoacacebeaeBnd
namespace Go.Proofs.Ythlomoacacebeae
open Go.Sx
set_option linter.unusedSimpArgs false
set_option linter.unusedVariables false
def lmax (ls : List Int) : Nat → Int
  | 0 => 0
  | k + 1 => if tsum ls k ls.length > lmax ls k then tsum ls k ls.length else lmax ls k
theorem longest_t (ls : List Int) (h : wOk ls) : PSpec Try.prog 45 [.rs 1 (nums ls)] (· = .tup [.int .i64 (lmax ls ls.length), .int .i64 0]) := by
  refine .of_code' tab_ok Try.func45 (by rfl) rfl trivial ?_
  have hl := nums_len ls
  conv => whnf
  refine (bvalid_t ls h).call ?_
  rintro _ rfl
  conv => whnf
  refine both_f rfl ?_
  conv => whnf
  refine LoopG.inv tab_ok 27 (fun k : { k : Nat // k ≤ ls.length } => [(0, .rs 1 (nums ls)), (4, .int .i64 (lmax ls k.1)), (12, .int .i64 ((nums ls).length : Int)), (13, .int .i64 (k.1 : Int))])
    (fun _ => []) (fun k => ls.length - k.1) ⟨0, by omega⟩ (.of [] (by decide) ?_) ?_
  · conv => whnf
    refine ⟨by rfl, ?_⟩
    conv => whnf
    refine ⟨by rfl, ?_⟩
    conv => whnf
    refine ⟨by rfl, ?_⟩
    conv => whnf
    refine ⟨by rfl, ?_⟩
    conv => whnf
    exact trivial
  · intro k
    have hk := k.2
    conv => whnf
    refine ⟨fun hb => ?_, fun hb => ?_⟩
    · have hb : k.1 < ls.length := by simpa [hl] using hb
      have h2 := h.2.1
      conv => whnf
      refine (turn_t ls h k.1 hb).call ?_
      rintro _ rfl
      conv => whnf
      refine ⟨⟨k.1 + 1, by omega⟩, by show ls.length - (k.1 + 1) < ls.length - k.1; omega, .of [] (by decide) ?_⟩
      conv => whnf
      refine ⟨by rfl, ?_⟩
      conv => whnf
      refine ⟨by rfl, ?_⟩
      conv => whnf
      refine ⟨by rfl, ?_⟩
      conv => whnf
      refine ⟨by exact (w64 _ (by omega) (by omega)).trans (by simp), ?_⟩
      conv => whnf
      exact trivial
    · have hb : k.1 = ls.length := by simp [hl] at hb; omega
      conv => whnf
      refine .same ?_
      conv => whnf
      (rw [hb])
def dlv (ls : List Int) (a b : Int) (i : Nat) (n : Int) : Int := IntKind.i64.wrap (IntKind.i64.wrap (IntKind.i64.wrap (n * tsum ls i ls.length) * IntKind.i64.wrap (kpv a b + 1)) * lmax ls ls.length)
theorem delay_t (ls : List Int) (h : wOk ls) (a b : Int) (hab : alpOk a b = true) (i : Nat) (hi : i < ls.length) (n : Int) (n0 : 0 ≤ n) (n1 : n ≤ 1048576) :
    PSpec Try.prog 19 [.rs 1 (nums ls), alpE a b, .int .i64 (i : Int), .int .i64 n] (· = .tup [.int .i64 (dlv ls a b i n), .int .i64 0]) := by
  refine .of_code' tab_ok Try.func19 (by rfl) rfl trivial ?_
  have hk : kpe a b = 0 := (kpv_ok hab).2.2.2
  conv => whnf
  refine (keep_s a b).call ?_
  rintro _ rfl
  conv => whnf
  refine (turn_t ls h i hi).call ?_
  rintro _ rfl
  conv => whnf
  refine both_f (by rw [hk]; rfl) ?_
  conv => whnf
  refine both_f (by simp) ?_
  conv => whnf
  refine both_f (by simp; omega) ?_
  conv => whnf
  refine both_f (by simp; omega) ?_
  conv => whnf
  refine (longest_t ls h).call ?_
  rintro _ rfl
  conv => whnf
  rfl
theorem turn_aw : PSpec Try.prog 20 [.rs 1 [[.int .i64 1], [.int .i64 2], [.int .i64 4]], .int .i64 1] (· = .tup [.int .i64 5, .int .i64 0]) :=
  turn_t [1, 2, 4] ⟨by decide, by decide, by decide⟩ 1 (by decide)
theorem dlv_aw : dlv [1, 1] 1 2 0 3 = 81 := by decide
theorem delay_aw : PSpec Try.prog 19 [.rs 1 [[.int .i64 1], [.int .i64 1]], alpE 1 2, .int .i64 0, .int .i64 3] (· = .tup [.int .i64 81, .int .i64 0]) := by
  have := delay_t [1, 1] ⟨by decide, by decide, by decide⟩ 1 2 (by decide) 0 (by decide) 3 (by decide) (by decide)
  rw [dlv_aw] at this
  exact this
theorem kpv_aw : kpv 1 2 = 2 := by decide
theorem kpe_aw : kpe 1 2 = 0 := by decide
theorem awake26_s : PSpec Try.prog 17 [] (· = .bool true) := by
  refine .of_code' tab_ok Try.func17 (by rfl) rfl trivial ?_
  conv => whnf
  refine (keep_s _ _).call ?_
  rintro _ rfl
  conv => whnf
  refine PSpec.lend turn_aw ?_ ?_
  · conv => whnf
    refine ⟨rfl, ?_⟩
    conv => whnf
    refine ⟨rfl, ?_⟩
    conv => whnf
    exact trivial
  rintro _ rfl
  conv => whnf
  refine PSpec.lend delay_aw ?_ ?_
  · conv => whnf
    refine ⟨rfl, ?_⟩
    conv => whnf
    refine ⟨rfl, ?_⟩
    conv => whnf
    refine ⟨rfl, ?_⟩
    conv => whnf
    refine ⟨rfl, ?_⟩
    conv => whnf
    exact trivial
  rintro _ rfl
  conv => whnf
  refine both_t rfl ?_
  conv => whnf
  refine both_t rfl ?_
  conv => whnf
  refine both_t rfl ?_
  conv => whnf
  refine both_t rfl ?_
  conv => whnf
  refine both_t rfl ?_
  conv => whnf
  rfl
def als : List (Int × Int) := [(1, 2), (9, 10), (1, 10), (2, 3), (1048575, 1048576), (1, 1048576)]
def alx (ls : List Int) (at' : Int) : Int × Int := als.getD (nxt ls at' 6).toNat (0, 0)
theorem als_get {i : Int} (h0 : 0 ≤ i) (h1 : i < 6) : (als.map fun p => [SV.int .i64 p.1, SV.int .i64 p.2])[i.toNat]? = some [SV.int .i64 (als.getD i.toNat (0, 0)).1, SV.int .i64 (als.getD i.toNat (0, 0)).2] := by
  have hl : i.toNat < als.length := by show i.toNat < 6; omega
  rw [List.getElem?_map, List.getElem?_eq_getElem hl]
  simp [List.getD, List.getElem?_eq_getElem hl]
theorem alpha_s (ls : List Int) (at' : Int) (h0 : 0 ≤ at') (h1 : at' < 9223372036854775800) :
    OSpec Try.prog 15 [.ptr 0 0] [chs ls at'] fun s ho => s = alpE (alx ls at').1 (alx ls at').2 ∧ ho = [chs ls (at' + 1)] := by
  refine .of_code tab_ok Try.func15 (by rfl) rfl trivial ?_
  conv => whnf
  refine (next_s _ _ _ (by first | omega | assumption | decide | simp) (by first | omega | assumption | decide | simp) (by first | omega | assumption | decide | simp)).call [0] (by decide) (And.intro rfl trivial) (And.intro rfl trivial) ?_
  rintro _ _ ⟨rfl, rfl⟩
  conv => whnf
  refine ⟨by exact ⟨nxt_lo _ _ _, nxt_hi _ _ _ (by omega)⟩, ?_⟩
  conv => whnf
  refine ⟨_, als_get (nxt_lo _ _ _) (nxt_hi _ _ _ (by decide)), ?_⟩
  conv => whnf
  refine ⟨by rfl, ?_⟩
  conv => whnf
end Go.Proofs.Ythlomoacacebeae
