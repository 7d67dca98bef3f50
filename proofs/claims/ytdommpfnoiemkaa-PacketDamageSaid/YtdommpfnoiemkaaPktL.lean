/- Chapter 8: the statements' helpers. -/
import Derived.Test.YtdommpfnoiemkaaPktP
namespace Go.Proofs.Ytdommpfnoiemkaa
open Go.Sx
set_option linter.unusedSimpArgs false
set_option linter.unusedVariables false
def prtL : List Int := [0, 1, 80, 90, 65535, 443]
def lifL : List Int := [0, 0, 1, 3, 65535]
def hdX (ls : List Int) (a : Int) : Hd := ⟨ggL.getD (nxt ls a 8).toNat [], nxt ls (a + 1) 8, prtL.getD (nxt ls (a + 1 + 1) 6).toNat 0, glL.getD (nxt ls (a + 1 + 1 + 1) 7).toNat 0, lifL.getD (nxt ls (a + 1 + 1 + 1 + 1) 5).toNat 0⟩
def namL : List (List UInt8) := [[97], [97, 110, 110], [65, 110, 110], [65, 78, 78], [98, 45, 49], [195, 132, 98], [195, 164, 98], [206, 145, 120], [206, 177, 120], [97, 46, 98, 95, 99], [195, 151], [122, 57], [], [97, 32, 98], [97, 42], [255], [239, 191, 189],
  [97, 97, 97, 97, 97, 97, 97, 97, 97, 97, 97, 97, 97, 97, 97, 97, 97, 97, 97, 97, 97, 97, 97, 97], [97, 97, 97, 97, 97, 97, 97, 97, 97, 97, 97, 97, 97, 97, 97, 97, 97, 97, 97, 97, 97, 97, 97, 97, 97], [240, 159, 152, 128]]
theorem gname_s (ls : List Int) (a : Int) (h0 : 0 ≤ a) (h1 : a < 9223372036854775800) :
    OSpec Try.prog 18 [.ptr 0 0] [chs ls a] fun s ho => s = .str (namL.getD (nxt ls a 20).toNat []) ∧ ho = [chs ls (a + 1)] := by
  refine .of_code tab_ok Try.func18 (by rfl) rfl trivial ?_
  have n0 := nxt_lo ls a 20
  have n1 := nxt_hi ls a 20 (by omega)
  conv => whnf
  refine (next_s _ _ _ (by first | omega | assumption | decide | simp) (by first | omega | assumption | decide | simp) (by first | omega | assumption | decide | simp)).call [0] (by decide) (And.intro rfl trivial) (And.intro rfl trivial) ?_
  rintro _ _ ⟨rfl, rfl⟩
  conv => whnf
  refine ⟨by simp; omega, ?_⟩
  conv => whnf
  refine ⟨_, gg_get (l := namL) n0 n1, ?_⟩
  conv => whnf
  refine ⟨by rfl, ?_⟩
  conv => whnf
theorem header_s (ls : List Int) (a : Int) (h0 : 0 ≤ a) (h1 : a < 9223372036854775700) :
    OSpec Try.prog 15 [.ptr 0 0] [chs ls a] fun s ho => s = hdE (hdX ls a) ∧ ho = [chs ls (a + 5)] := by
  refine .of_code tab_ok Try.func15 (by rfl) rfl trivial ?_
  have n0 := nxt_lo ls (a + 1 + 1) 6
  have n1 := nxt_hi ls (a + 1 + 1) 6 (by omega)
  have m0 := nxt_lo ls (a + 1 + 1 + 1 + 1) 5
  have m1 := nxt_hi ls (a + 1 + 1 + 1 + 1) 5 (by omega)
  conv => whnf
  refine DrawG.of mixed tab_ok ?_
  conv => whnf
  refine (ggood_s _ _ (by first | omega | assumption | decide | simp) (by first | omega | assumption | decide | simp)).calld [0] (by decide) rfl trivial (And.intro rfl trivial) ?_
  conv => whnf
  refine (next_s _ _ _ (by first | omega | assumption | decide | simp) (by first | omega | assumption | decide | simp) (by first | omega | assumption | decide | simp)).calld [0] (by decide) rfl (And.intro rfl trivial) (And.intro rfl trivial) ?_
  conv => whnf
  refine (next_s _ _ _ (by first | omega | assumption | decide | simp) (by first | omega | assumption | decide | simp) (by first | omega | assumption | decide | simp)).calld [0] (by decide) rfl (And.intro rfl trivial) (And.intro rfl trivial) ?_
  conv => whnf
  refine ⟨by simp; omega, ?_⟩
  conv => whnf
  refine ⟨_, gl_get (l := prtL) n0 n1, ?_⟩
  conv => whnf
  refine (glen_s _ _ (by first | omega | assumption | decide | simp) (by first | omega | assumption | decide | simp)).calld [0] (by decide) rfl trivial (And.intro rfl trivial) ?_
  conv => whnf
  refine (next_s _ _ _ (by first | omega | assumption | decide | simp) (by first | omega | assumption | decide | simp) (by first | omega | assumption | decide | simp)).calld [0] (by decide) rfl (And.intro rfl trivial) (And.intro rfl trivial) ?_
  conv => whnf
  refine ⟨by simp; omega, ?_⟩
  conv => whnf
  refine ⟨_, gl_get (l := lifL) m0 m1, ?_⟩
  conv => whnf
  refine ⟨by kernel_rfl, ?_⟩
  conv => whnf
  refine ⟨by rfl, ?_⟩
  conv => whnf
  exact congrArg (fun z => [chs ls z]) (by omega)
theorem gg_ok : ∀ k, k < 8 → nameOk (ggL.getD k []) = true := by decide +kernel
theorem getD_all {l : List Int} {p : Int → Prop} (h : ∀ x ∈ l, p x) {i : Int} (h0 : 0 ≤ i) (h1 : i < l.length) : p (l.getD i.toNat 0) := by
  have : i.toNat < l.length := by omega
  rw [List.getD_eq_getElem?_getD, List.getElem?_eq_getElem this]
  exact h _ (List.getElem_mem this)
theorem hdX_ok (ls : List Int) (a : Int) : hdOk (hdX ls a) = true := by
  refine hdOk_t (gg_ok _ ?_) ?_
  · have := nxt_lo ls a 8; have := nxt_hi ls a 8 (by omega); omega
  · have c0 := nxt_lo ls (a + 1) 8
    have c1 := nxt_hi ls (a + 1) 8 (by omega)
    have p := getD_all (l := prtL) (p := fun x => 0 ≤ x ∧ x ≤ 65535) (by decide) (nxt_lo ls (a + 1 + 1) 6) (nxt_hi ls (a + 1 + 1) 6 (by omega))
    have l := getD_all (l := glL) (p := fun x => 1 ≤ x ∧ x ≤ 4096) (by decide) (nxt_lo ls (a + 1 + 1 + 1) 7) (nxt_hi ls (a + 1 + 1 + 1) 7 (by omega))
    have f := getD_all (l := lifL) (p := fun x => 0 ≤ x ∧ x ≤ 65535) (by decide) (nxt_lo ls (a + 1 + 1 + 1 + 1) 5) (nxt_hi ls (a + 1 + 1 + 1 + 1) 5 (by omega))
    exact ⟨c0, by show nxt ls (a + 1) 8 ≤ 7; omega, p.1, p.2, l.1, l.2, f.1, f.2⟩
theorem nam_len : ∀ k, (namL.getD k []).length ≤ 25 := by
  intro k
  by_cases h : k < 20
  · revert k; decide
  · simp [List.getD, List.getElem?_eq_none (show namL.length ≤ k by simp [namL]; omega)]
theorem fmt_cases (h : Hd) : fmtR h = .tup [.str (recD h), .int .i64 0] ∨ fmtR h = .tup [.str [], .int .i64 1] := by
  unfold fmtR; cases hdOk h <;> simp
theorem formats_s (st : List UInt8) (c p l f : Int) (hs : st.length ≤ 1000) : PSpec Try.prog 16 [.agg [.str st, .int .i64 c, .int .i64 p, .int .i64 l, .int .i64 f]] (· = .bool true) := by
  refine .of_code' tab_ok Try.func16 (by rfl) rfl trivial ?_
  conv => whnf
  refine (format_s ⟨st, c, p, l, f⟩ hs).call ?_
  rintro _ rfl
  obtain ⟨x, y, e⟩ : ∃ x y, fmtR ⟨st, c, p, l, f⟩ = .tup [.str x, .int .i64 y] := (fmt_cases _).elim (fun e => ⟨_, _, e⟩) (fun e => ⟨_, _, e⟩)
  rw [e]
  conv => whnf
  refine (rformat_s ⟨st, c, p, l, f⟩ hs).call ?_
  rintro _ rfl
  rw [e]
  conv => whnf
  refine DrawG.of mixed tab_ok ?_
  conv => whnf
  refine (pvalid2_s _ _ _ _ _).calld ?_
  conv => whnf
  refine (rvalidh2_s _ _ _ _ _ (by first | omega | assumption | decide | simp)).calld ?_
  conv => whnf
  refine both_t (by simp) ?_
  conv => whnf
  refine both_t (by simp) ?_
  conv => whnf
  refine ⟨by kernel_rfl, ?_⟩
  conv => whnf
  simp
theorem awake8_s : PSpec Try.prog 19 [] (· = .bool true) := by
  refine .of_code' tab_ok Try.func19 (by rfl) rfl trivial ?_
  conv => whnf
  refine (format_s ⟨[97], 0, 0, 1, 0⟩ (by simp)).call ?_
  rintro _ rfl
  rw [show fmtR ⟨[97], 0, 0, 1, 0⟩ = .tup [.str (recD ⟨[97], 0, 0, 1, 0⟩), .int .i64 0] from by unfold fmtR; rw [show hdOk ⟨[97], 0, 0, 1, 0⟩ = true from by decide +kernel]; rfl]
  conv => whnf
  refine (csum_s _ (by first | omega | assumption | decide | simp)).call ?_
  rintro _ rfl
  conv => whnf
  refine both_t rfl ?_
  conv => whnf
  refine both_t rfl ?_
  conv => whnf
  rfl
theorem parses_s (s : List UInt8) (hs : s.length ≤ 900) : PSpec Try.prog 21 [.str s] (· = .bool true) := by
  refine .of_code' tab_ok Try.func21 (by rfl) rfl trivial ?_
  conv => whnf
  refine (parse_s _ (by first | omega | assumption | decide | simp)).call ?_
  rintro _ rfl
  conv => whnf
  refine (rparse_s _ (by first | omega | assumption | decide | simp)).call ?_
  rintro _ rfl
  conv => whnf
  refine (csum_s _ (by first | omega | assumption | decide | simp)).call ?_
  rintro _ rfl
  conv => whnf
  refine (rcsum_s _ (by first | omega | assumption | decide | simp)).call ?_
  rintro _ rfl
  conv => whnf
  refine both_t (by simp) ?_
  conv => whnf
  refine both_t (by simp) ?_
  conv => whnf
  simp [*]
end Go.Proofs.Ytdommpfnoiemkaa
