/- The statements PacketRoundTrip, PacketDamage and PacketParse as contracts. -/
import Derived.Test.YtdommpfnoiemkaaPktR
namespace Go.Proofs.Ytdommpfnoiemkaa
open Go.Sx
set_option linter.unusedSimpArgs false
set_option linter.unusedVariables false
theorem format2_s (st : List UInt8) (c p l f : Int) (hs : st.length ≤ 1000) : PSpec Try.prog 23 [.agg [.str st, .int .i64 c, .int .i64 p, .int .i64 l, .int .i64 f]] (· = fmtR ⟨st, c, p, l, f⟩) := format_s ⟨st, c, p, l, f⟩ hs
theorem fmt_ok {h : Hd} (hv : hdOk h = true) : fmtR h = .tup [.str (recD h), .int .i64 0] := by unfold fmtR; rw [hv]; rfl
theorem formatX_s (ls : List Int) (a : Int) : PSpec Try.prog 23 [hdE (hdX ls a)] (· = .tup [.str (recD (hdX ls a)), .int .i64 0]) := by
  have h := nameOk_len (hdOk_of (hdX_ok ls a)).1
  rw [← fmt_ok (hdX_ok ls a)]
  exact format_s _ (by omega)
theorem rformatX_s (ls : List Int) (a : Int) : PSpec Try.prog 20 [hdE (hdX ls a)] (· = .tup [.str (recD (hdX ls a)), .int .i64 0]) := by
  have h := nameOk_len (hdOk_of (hdX_ok ls a)).1
  rw [← fmt_ok (hdX_ok ls a)]
  exact rformat_s _ (by omega)
theorem recX_len (ls : List Int) (a : Int) : 13 ≤ (recD (hdX ls a)).length ∧ (recD (hdX ls a)).length ≤ 36 := by
  have h := nameOk_len (hdOk_of (hdX_ok ls a)).1
  rw [recD_len]; omega
theorem parseX_s (ls : List Int) (a : Int) : PSpec Try.prog 24 [.str (recD (hdX ls a))] (· = .tup [hdE (hdX ls a), .int .i64 0]) := by
  have h := recX_len ls a
  have e := parse_s (recD (hdX ls a)) (by omega)
  rwa [prsV, prs_rec _ (hdX_ok ls a)] at e
theorem packetRoundTrip_s (ls : List Int) (s : List UInt8) (hs : s.length ≤ 9223372036854775807) : PSpec Try.prog 5 [.rs 1 (nums ls), .str s] TrueS := by
  refine .of_code' tab_ok Try.func5 (by rfl) rfl trivial ?_
  conv => whnf
  refine CallG.of_code tab_ok Try.func14 (by rfl) rfl ?_
  conv => whnf
  refine (header_s ls 0 (by omega) (by omega)).call [0] (by decide) trivial (And.intro rfl trivial) ?_
  rintro _ _ ⟨rfl, rfl⟩
  conv => whnf
  refine (formatX_s _ _).call ?_
  rintro _ rfl
  conv => whnf
  refine (parseX_s _ _).call ?_
  rintro _ rfl
  conv => whnf
  refine both_f rfl ?_
  conv => whnf
  refine both_f rfl ?_
  conv => whnf
  refine both_f (by simp) ?_
  conv => whnf
  refine (parse_s s hs).call ?_
  rintro _ rfl
  conv => whnf
  refine ⟨fun hb => ?_, fun hb => ?_⟩
  · conv => whnf
    refine (awake8_s).call ?_
    rintro _ rfl
    conv => whnf
  · have hb : (prsR s).2 = 0 := by simpa using hb
    obtain ⟨_, _, _, _, h5, h6⟩ := prs_inv hb
    have hl := nameOk_len (hdOk_of h5).1
    have hf : PSpec Try.prog 23 [hdE (prsR s).1] (· = .tup [.str s, .int .i64 0]) := by
      have e := format_s (prsR s).1 (by rw [h6]; omega)
      rwa [fmt_ok (by rw [h6]; exact h5), rec_prs hb] at e
    conv => whnf
    refine hf.call ?_
    rintro _ rfl
    conv => whnf
    refine both_t rfl ?_
    conv => whnf
    refine both_t (by simp) ?_
    conv => whnf
    refine (awake8_s).call ?_
    rintro _ rfl
    conv => whnf
theorem recX_row (ls : List Int) (a : Int) (i : Nat) (h : i < (recD (hdX ls a)).length) : ((recD (hdX ls a)).map byteCell)[i]? = some [SV.int .u8 (byt (recD (hdX ls a)) i)] := by
  rw [List.getElem?_map, List.getElem?_eq_getElem h]
  simp [byteCell, byt, List.getD, List.getElem?_eq_getElem h]
theorem row_set {t : List UInt8} {i : Nat} {z : Int} (h0 : 0 ≤ z) (h1 : z ≤ 255) : (t.map byteCell).set i [.int .u8 z] = (t.set i (UInt8.ofNat z.toNat)).map byteCell := by
  rw [List.map_set, u8c h0 h1]
theorem row_cut {t : List UInt8} {i k j : Nat} {z : Int} (h0 : 0 ≤ z) (h1 : z ≤ 255) : ((((t.map byteCell).set i [.int .u8 z]).take k).drop j) = ((((t.set i (UInt8.ofNat z.toNat)).take k).drop j)).map byteCell := by
  rw [row_set h0 h1, List.map_drop, List.map_take]
theorem wrap8 (z : Int) : 0 ≤ IntKind.u8.wrap z ∧ IntKind.u8.wrap z ≤ 255 := by rw [IntKind.wrap_u8]; omega
theorem bad_s (ls : List Int) (i : Nat) (b : Int) (b0 : 0 ≤ b) (b1 : b ≤ 255) (hi : i < (recD (hdX ls 0)).length) (h1 : ¬ byt (recD (hdX ls 0)) i = b) (h2 : ¬ (byt (recD (hdX ls 0)) i = 0 ∧ b = 255)) (h3 : ¬ (byt (recD (hdX ls 0)) i = 255 ∧ b = 0)) :
    PSpec Try.prog 24 [.str ((recD (hdX ls 0)).set i (UInt8.ofNat b.toNat))] (fun v => ∃ e : Int, v = .tup [hdE hd0, .int .i64 e] ∧ e ≠ 0) := by
  have hl := recX_len ls 0
  have e := u8_nat (z := b) b0 b1
  have hd := damage (hdX_ok ls 0) (b := UInt8.ofNat b.toNat) hi (by rw [e]; exact h1) (by rw [e]; exact h2) (by rw [e]; exact h3)
  refine (parse_s _ (by rw [List.length_set]; omega)).mono fun v hv => ⟨_, hv.trans ?_, hd⟩
  rw [prsV, prs_bad hd]
theorem packetDamage_s (ls : List Int) (at' : Int) (b : Int) (b0 : 0 ≤ b) (b1 : b ≤ 255) : PSpec Try.prog 6 [.rs 1 (nums ls), .int .i64 at', .int .u8 b] TrueS := by
  refine .of_code' tab_ok Try.func6 (by rfl) rfl trivial ?_
  have hl := recX_len ls 0
  conv => whnf
  refine CallG.of_code tab_ok Try.func14 (by rfl) rfl ?_
  have hm : ((recD (hdX ls 0)).map byteCell).length = (recD (hdX ls 0)).length := List.length_map ..
  have hL : 0 < (((recD (hdX ls 0)).map byteCell).length : Int) := by omega
  have e0 := Int.emod_nonneg at' (show (((recD (hdX ls 0)).map byteCell).length : Int) ≠ 0 by omega)
  have e1 := Int.emod_lt_of_pos at' hL
  conv => whnf
  refine (header_s _ _ (by first | omega | (have q := tmod_neg hL hh21; rw [q, w64 _ (by omega) (by omega)]; omega) | (have q := tmod_pos (v := at') hL (by omega); omega) | assumption | decide | simp) (by first | omega | (have q := tmod_neg hL hh21; rw [q, w64 _ (by omega) (by omega)]; omega) | (have q := tmod_pos (v := at') hL (by omega); omega) | assumption | decide | simp)).call [0] (by decide) trivial (And.intro rfl trivial) ?_
  rintro _ _ ⟨rfl, rfl⟩
  conv => whnf
  refine (formatX_s _ _).call ?_
  rintro _ rfl
  conv => whnf
  refine both_f rfl ?_
  conv => whnf
  refine both_f rfl ?_
  conv => whnf
  refine ⟨by omega, ?_⟩
  conv => whnf
  refine CallG.of_code tab_ok Try.func14 (by rfl) rfl ?_
  conv => whnf
  refine CallG.of_code tab_ok Try.func17 (by rfl) rfl ?_
  conv => whnf
  refine DrawG.of mixed tab_ok ?_
  conv => whnf
  refine ⟨by kernel_rfl, ?_⟩
  conv => whnf
  refine both_t rfl ?_
  conv => whnf
  refine DrawG.of mixed tab_ok ?_
  conv => whnf
  refine ⟨by simp, ?_⟩
  conv => whnf
  refine ⟨_, rfl, ?_⟩
  conv => whnf
  refine ⟨by kernel_rfl, ?_⟩
  conv => whnf
  refine both_f rfl ?_
  conv => whnf
  refine ⟨by omega, ?_⟩
  conv => whnf
  refine ⟨fun hh21 => ?_, fun hh21 => ?_⟩
  · simp only [decide_eq_true_eq, decide_eq_false_iff_not] at hh21
    conv => whnf
    refine ⟨by (have q := tmod_neg hL hh21; rw [q, w64 _ (by omega) (by omega)]; omega), ?_⟩
    conv => whnf
    (refine ⟨_, recX_row ls 0 _ (by have q := tmod_neg hL hh21; rw [q, w64 _ (by omega) (by omega)]; omega), ?_⟩)
    conv => whnf
    refine ⟨by (have q := tmod_neg hL hh21; rw [q, w64 _ (by omega) (by omega)]; omega), ?_⟩
    conv => whnf
    (refine ⟨_, recX_row ls 0 _ (by have q := tmod_neg hL hh21; rw [q, w64 _ (by omega) (by omega)]; omega), ?_⟩)
    conv => whnf
    refine ⟨fun hh24 => ?_, fun hh24 => ?_⟩
    · simp only [decide_eq_true_eq, decide_eq_false_iff_not] at hh24
      conv => whnf
      refine (awake8_s).call ?_
      rintro _ rfl
      conv => whnf
    · simp only [decide_eq_true_eq, decide_eq_false_iff_not] at hh24
      conv => whnf
      refine ⟨fun hh35 => ?_, fun hh35 => ?_⟩
      · simp only [decide_eq_true_eq, decide_eq_false_iff_not] at hh35
        conv => whnf
        refine ⟨fun hh36 => ?_, fun hh36 => ?_⟩
        · simp only [decide_eq_true_eq, decide_eq_false_iff_not] at hh36
          conv => whnf
          refine (awake8_s).call ?_
          rintro _ rfl
          conv => whnf
        · simp only [decide_eq_true_eq, decide_eq_false_iff_not] at hh36
          conv => whnf
          refine ⟨fun hh47 => ?_, fun hh47 => ?_⟩
          · simp only [decide_eq_true_eq, decide_eq_false_iff_not] at hh47
            conv => whnf
            refine both_t (by simp; omega) ?_
            conv => whnf
            refine (awake8_s).call ?_
            rintro _ rfl
            conv => whnf
          · simp only [decide_eq_true_eq, decide_eq_false_iff_not] at hh47
            conv => whnf
            (refine ⟨_, row_set b0 b1, ?_⟩)
            conv => whnf
            refine (bad_s _ _ _ (by first | omega | (have q := tmod_neg hL hh21; rw [q, w64 _ (by omega) (by omega)]; omega) | (have q := tmod_pos (v := at') hL (by omega); omega) | assumption | decide | simp) (by first | omega | (have q := tmod_neg hL hh21; rw [q, w64 _ (by omega) (by omega)]; omega) | (have q := tmod_pos (v := at') hL (by omega); omega) | assumption | decide | simp) (by first | omega | (have q := tmod_neg hL hh21; rw [q, w64 _ (by omega) (by omega)]; omega) | (have q := tmod_pos (v := at') hL (by omega); omega) | assumption | decide | simp) (by first | omega | (have q := tmod_neg hL hh21; rw [q, w64 _ (by omega) (by omega)]; omega) | (have q := tmod_pos (v := at') hL (by omega); omega) | assumption | decide | simp) (by first | omega | (have q := tmod_neg hL hh21; rw [q, w64 _ (by omega) (by omega)]; omega) | (have q := tmod_pos (v := at') hL (by omega); omega) | assumption | decide | simp) (by first | omega | (have q := tmod_neg hL hh21; rw [q, w64 _ (by omega) (by omega)]; omega) | (have q := tmod_pos (v := at') hL (by omega); omega) | assumption | decide | simp)).call ?_
            rintro _ ⟨u59, rfl, g60⟩
            conv => whnf
            refine both_t (by simp; omega) ?_
            conv => whnf
            refine both_t rfl ?_
            conv => whnf
            refine (awake8_s).call ?_
            rintro _ rfl
            conv => whnf
      · simp only [decide_eq_true_eq, decide_eq_false_iff_not] at hh35
        conv => whnf
        refine ⟨fun hh79 => ?_, fun hh79 => ?_⟩
        · simp only [decide_eq_true_eq, decide_eq_false_iff_not] at hh79
          conv => whnf
          refine ⟨fun hh80 => ?_, fun hh80 => ?_⟩
          · simp only [decide_eq_true_eq, decide_eq_false_iff_not] at hh80
            conv => whnf
            refine (awake8_s).call ?_
            rintro _ rfl
            conv => whnf
          · simp only [decide_eq_true_eq, decide_eq_false_iff_not] at hh80
            conv => whnf
            (refine ⟨_, row_set b0 b1, ?_⟩)
            conv => whnf
            refine (bad_s _ _ _ (by first | omega | (have q := tmod_neg hL hh21; rw [q, w64 _ (by omega) (by omega)]; omega) | (have q := tmod_pos (v := at') hL (by omega); omega) | assumption | decide | simp) (by first | omega | (have q := tmod_neg hL hh21; rw [q, w64 _ (by omega) (by omega)]; omega) | (have q := tmod_pos (v := at') hL (by omega); omega) | assumption | decide | simp) (by first | omega | (have q := tmod_neg hL hh21; rw [q, w64 _ (by omega) (by omega)]; omega) | (have q := tmod_pos (v := at') hL (by omega); omega) | assumption | decide | simp) (by first | omega | (have q := tmod_neg hL hh21; rw [q, w64 _ (by omega) (by omega)]; omega) | (have q := tmod_pos (v := at') hL (by omega); omega) | assumption | decide | simp) (by first | omega | (have q := tmod_neg hL hh21; rw [q, w64 _ (by omega) (by omega)]; omega) | (have q := tmod_pos (v := at') hL (by omega); omega) | assumption | decide | simp) (by first | omega | (have q := tmod_neg hL hh21; rw [q, w64 _ (by omega) (by omega)]; omega) | (have q := tmod_pos (v := at') hL (by omega); omega) | assumption | decide | simp)).call ?_
            rintro _ ⟨u92, rfl, g93⟩
            conv => whnf
            refine both_t (by simp; omega) ?_
            conv => whnf
            refine both_t rfl ?_
            conv => whnf
            refine (awake8_s).call ?_
            rintro _ rfl
            conv => whnf
        · simp only [decide_eq_true_eq, decide_eq_false_iff_not] at hh79
          conv => whnf
          (refine ⟨_, row_set b0 b1, ?_⟩)
          conv => whnf
          refine (bad_s _ _ _ (by first | omega | (have q := tmod_neg hL hh21; rw [q, w64 _ (by omega) (by omega)]; omega) | (have q := tmod_pos (v := at') hL (by omega); omega) | assumption | decide | simp) (by first | omega | (have q := tmod_neg hL hh21; rw [q, w64 _ (by omega) (by omega)]; omega) | (have q := tmod_pos (v := at') hL (by omega); omega) | assumption | decide | simp) (by first | omega | (have q := tmod_neg hL hh21; rw [q, w64 _ (by omega) (by omega)]; omega) | (have q := tmod_pos (v := at') hL (by omega); omega) | assumption | decide | simp) (by first | omega | (have q := tmod_neg hL hh21; rw [q, w64 _ (by omega) (by omega)]; omega) | (have q := tmod_pos (v := at') hL (by omega); omega) | assumption | decide | simp) (by first | omega | (have q := tmod_neg hL hh21; rw [q, w64 _ (by omega) (by omega)]; omega) | (have q := tmod_pos (v := at') hL (by omega); omega) | assumption | decide | simp) (by first | omega | (have q := tmod_neg hL hh21; rw [q, w64 _ (by omega) (by omega)]; omega) | (have q := tmod_pos (v := at') hL (by omega); omega) | assumption | decide | simp)).call ?_
          rintro _ ⟨u113, rfl, g114⟩
          conv => whnf
          refine both_t (by simp; omega) ?_
          conv => whnf
          refine both_t rfl ?_
          conv => whnf
          refine (awake8_s).call ?_
          rintro _ rfl
          conv => whnf
  · simp only [decide_eq_true_eq, decide_eq_false_iff_not] at hh21
    conv => whnf
    refine ⟨by (have q := tmod_pos (v := at') hL (by omega); omega), ?_⟩
    conv => whnf
    (refine ⟨_, recX_row ls 0 _ (by have q := tmod_pos (v := at') hL (by omega); omega), ?_⟩)
    conv => whnf
    refine ⟨by (have q := tmod_pos (v := at') hL (by omega); omega), ?_⟩
    conv => whnf
    (refine ⟨_, recX_row ls 0 _ (by have q := tmod_pos (v := at') hL (by omega); omega), ?_⟩)
    conv => whnf
    refine ⟨fun hh135 => ?_, fun hh135 => ?_⟩
    · simp only [decide_eq_true_eq, decide_eq_false_iff_not] at hh135
      conv => whnf
      refine (awake8_s).call ?_
      rintro _ rfl
      conv => whnf
    · simp only [decide_eq_true_eq, decide_eq_false_iff_not] at hh135
      conv => whnf
      refine ⟨fun hh146 => ?_, fun hh146 => ?_⟩
      · simp only [decide_eq_true_eq, decide_eq_false_iff_not] at hh146
        conv => whnf
        refine ⟨fun hh147 => ?_, fun hh147 => ?_⟩
        · simp only [decide_eq_true_eq, decide_eq_false_iff_not] at hh147
          conv => whnf
          refine (awake8_s).call ?_
          rintro _ rfl
          conv => whnf
        · simp only [decide_eq_true_eq, decide_eq_false_iff_not] at hh147
          conv => whnf
          refine ⟨fun hh158 => ?_, fun hh158 => ?_⟩
          · simp only [decide_eq_true_eq, decide_eq_false_iff_not] at hh158
            conv => whnf
            refine both_t (by simp; omega) ?_
            conv => whnf
            refine (awake8_s).call ?_
            rintro _ rfl
            conv => whnf
          · simp only [decide_eq_true_eq, decide_eq_false_iff_not] at hh158
            conv => whnf
            (refine ⟨_, row_set b0 b1, ?_⟩)
            conv => whnf
            refine (bad_s _ _ _ (by first | omega | (have q := tmod_neg hL hh21; rw [q, w64 _ (by omega) (by omega)]; omega) | (have q := tmod_pos (v := at') hL (by omega); omega) | assumption | decide | simp) (by first | omega | (have q := tmod_neg hL hh21; rw [q, w64 _ (by omega) (by omega)]; omega) | (have q := tmod_pos (v := at') hL (by omega); omega) | assumption | decide | simp) (by first | omega | (have q := tmod_neg hL hh21; rw [q, w64 _ (by omega) (by omega)]; omega) | (have q := tmod_pos (v := at') hL (by omega); omega) | assumption | decide | simp) (by first | omega | (have q := tmod_neg hL hh21; rw [q, w64 _ (by omega) (by omega)]; omega) | (have q := tmod_pos (v := at') hL (by omega); omega) | assumption | decide | simp) (by first | omega | (have q := tmod_neg hL hh21; rw [q, w64 _ (by omega) (by omega)]; omega) | (have q := tmod_pos (v := at') hL (by omega); omega) | assumption | decide | simp) (by first | omega | (have q := tmod_neg hL hh21; rw [q, w64 _ (by omega) (by omega)]; omega) | (have q := tmod_pos (v := at') hL (by omega); omega) | assumption | decide | simp)).call ?_
            rintro _ ⟨u170, rfl, g171⟩
            conv => whnf
            refine both_t (by simp; omega) ?_
            conv => whnf
            refine both_t rfl ?_
            conv => whnf
            refine (awake8_s).call ?_
            rintro _ rfl
            conv => whnf
      · simp only [decide_eq_true_eq, decide_eq_false_iff_not] at hh146
        conv => whnf
        refine ⟨fun hh190 => ?_, fun hh190 => ?_⟩
        · simp only [decide_eq_true_eq, decide_eq_false_iff_not] at hh190
          conv => whnf
          refine ⟨fun hh191 => ?_, fun hh191 => ?_⟩
          · simp only [decide_eq_true_eq, decide_eq_false_iff_not] at hh191
            conv => whnf
            refine (awake8_s).call ?_
            rintro _ rfl
            conv => whnf
          · simp only [decide_eq_true_eq, decide_eq_false_iff_not] at hh191
            conv => whnf
            (refine ⟨_, row_set b0 b1, ?_⟩)
            conv => whnf
            refine (bad_s _ _ _ (by first | omega | (have q := tmod_neg hL hh21; rw [q, w64 _ (by omega) (by omega)]; omega) | (have q := tmod_pos (v := at') hL (by omega); omega) | assumption | decide | simp) (by first | omega | (have q := tmod_neg hL hh21; rw [q, w64 _ (by omega) (by omega)]; omega) | (have q := tmod_pos (v := at') hL (by omega); omega) | assumption | decide | simp) (by first | omega | (have q := tmod_neg hL hh21; rw [q, w64 _ (by omega) (by omega)]; omega) | (have q := tmod_pos (v := at') hL (by omega); omega) | assumption | decide | simp) (by first | omega | (have q := tmod_neg hL hh21; rw [q, w64 _ (by omega) (by omega)]; omega) | (have q := tmod_pos (v := at') hL (by omega); omega) | assumption | decide | simp) (by first | omega | (have q := tmod_neg hL hh21; rw [q, w64 _ (by omega) (by omega)]; omega) | (have q := tmod_pos (v := at') hL (by omega); omega) | assumption | decide | simp) (by first | omega | (have q := tmod_neg hL hh21; rw [q, w64 _ (by omega) (by omega)]; omega) | (have q := tmod_pos (v := at') hL (by omega); omega) | assumption | decide | simp)).call ?_
            rintro _ ⟨u203, rfl, g204⟩
            conv => whnf
            refine both_t (by simp; omega) ?_
            conv => whnf
            refine both_t rfl ?_
            conv => whnf
            refine (awake8_s).call ?_
            rintro _ rfl
            conv => whnf
        · simp only [decide_eq_true_eq, decide_eq_false_iff_not] at hh190
          conv => whnf
          (refine ⟨_, row_set b0 b1, ?_⟩)
          conv => whnf
          refine (bad_s _ _ _ (by first | omega | (have q := tmod_neg hL hh21; rw [q, w64 _ (by omega) (by omega)]; omega) | (have q := tmod_pos (v := at') hL (by omega); omega) | assumption | decide | simp) (by first | omega | (have q := tmod_neg hL hh21; rw [q, w64 _ (by omega) (by omega)]; omega) | (have q := tmod_pos (v := at') hL (by omega); omega) | assumption | decide | simp) (by first | omega | (have q := tmod_neg hL hh21; rw [q, w64 _ (by omega) (by omega)]; omega) | (have q := tmod_pos (v := at') hL (by omega); omega) | assumption | decide | simp) (by first | omega | (have q := tmod_neg hL hh21; rw [q, w64 _ (by omega) (by omega)]; omega) | (have q := tmod_pos (v := at') hL (by omega); omega) | assumption | decide | simp) (by first | omega | (have q := tmod_neg hL hh21; rw [q, w64 _ (by omega) (by omega)]; omega) | (have q := tmod_pos (v := at') hL (by omega); omega) | assumption | decide | simp) (by first | omega | (have q := tmod_neg hL hh21; rw [q, w64 _ (by omega) (by omega)]; omega) | (have q := tmod_pos (v := at') hL (by omega); omega) | assumption | decide | simp)).call ?_
          rintro _ ⟨u224, rfl, g225⟩
          conv => whnf
          refine both_t (by simp; omega) ?_
          conv => whnf
          refine both_t rfl ?_
          conv => whnf
          refine (awake8_s).call ?_
          rintro _ rfl
          conv => whnf
theorem packetParse_s (ls : List Int) (s : List UInt8) (hs : s.length ≤ 9223372036854775807) : PSpec Try.prog 4 [.rs 1 (nums ls), .str s] TrueS := by
  refine .of_code' tab_ok Try.func4 (by rfl) rfl trivial ?_
  conv => whnf
  refine CallG.of_code tab_ok Try.func14 (by rfl) rfl ?_
  conv => whnf
  refine LoopG.inv tab_ok 93 (fun x : { x : Int × Nat // 0 ≤ x.1 ∧ x.1 ≤ 10 * (x.2 : Int) ∧ x.2 ≤ 5 } => [(1, .str s), (5, .ptr 0 0), (6, .int .i64 (x.1.2 : Int))])
    (fun x => [chs ls x.1.1]) (fun x => 5 - x.1.2) ⟨(0, 0), by simp⟩ (.of [some 0] (by rfl) ?_) ?_
  · conv => whnf
    refine ⟨by rfl, ?_⟩
    conv => whnf
    refine ⟨by rfl, ?_⟩
    conv => whnf
    refine ⟨by rfl, ?_⟩
    conv => whnf
    refine ⟨by rfl, ?_⟩
    conv => whnf
    exact trivial
  · intro x
    have hx := x.2
    have hl := recX_len ls x.1.1
    conv => whnf
    refine ⟨fun hb => ?_, fun hb => ?_⟩
    · have hb : x.1.2 < 5 := by simp only [decide_eq_true_eq] at hb; omega
      conv => whnf
      refine (header_s ls x.1.1 (by omega) (by omega)).call [0] (by decide) trivial (And.intro rfl trivial) ?_
      rintro _ _ ⟨rfl, rfl⟩
      conv => whnf
      refine (rformatX_s _ _).call ?_
      rintro _ rfl
      conv => whnf
      refine ⟨by omega, ?_⟩
      conv => whnf
      have hm : ((recD (hdX ls x.1.1)).map byteCell).length = (recD (hdX ls x.1.1)).length := List.length_map ..
      have n0 := nxt_lo ls (x.1.1 + 5) (((recD (hdX ls x.1.1)).map byteCell).length : Int)
      have n1 := nxt_hi ls (x.1.1 + 5) (((recD (hdX ls x.1.1)).map byteCell).length : Int) (by omega)
      have m0 := nxt_lo ls (x.1.1 + 5 + 1) 255
      have m1 := nxt_hi ls (x.1.1 + 5 + 1) 255 (by omega)
      have k0 := nxt_lo ls (x.1.1 + 5 + 1 + 1) ((recD (hdX ls x.1.1)).length : Int)
      have k1 := nxt_hi ls (x.1.1 + 5 + 1 + 1) ((recD (hdX ls x.1.1)).length : Int) (by omega)
      refine DrawG.xg ?_
      conv => whnf
      refine DrawG.of mixed tab_ok ?_
      conv => whnf
      refine (next_s _ _ _ (by first | omega | (simp only [List.length_set, List.length_take, List.length_drop, List.length_append, two_len]; omega) | (simp; omega) | assumption | decide | simp) (by first | omega | (simp only [List.length_set, List.length_take, List.length_drop, List.length_append, two_len]; omega) | (simp; omega) | assumption | decide | simp) (by first | omega | (simp only [List.length_set, List.length_take, List.length_drop, List.length_append, two_len]; omega) | (simp; omega) | assumption | decide | simp)).calld [0] (by decide) rfl (And.intro rfl trivial) (And.intro rfl trivial) ?_
      conv => whnf
      refine ⟨by omega, ?_⟩
      conv => whnf
      refine ⟨_, recX_row ls x.1.1 _ (by omega), ?_⟩
      conv => whnf
      refine (next_s _ _ _ (by first | omega | (simp only [List.length_set, List.length_take, List.length_drop, List.length_append, two_len]; omega) | (simp; omega) | assumption | decide | simp) (by first | omega | (simp only [List.length_set, List.length_take, List.length_drop, List.length_append, two_len]; omega) | (simp; omega) | assumption | decide | simp) (by first | omega | (simp only [List.length_set, List.length_take, List.length_drop, List.length_append, two_len]; omega) | (simp; omega) | assumption | decide | simp)).calld [0] (by decide) rfl (And.intro rfl trivial) (And.intro rfl trivial) ?_
      conv => whnf
      refine ⟨by omega, ?_⟩
      conv => whnf
      refine ⟨_, recX_row ls x.1.1 _ (by omega), ?_⟩
      conv => whnf
      refine ⟨by kernel_rfl, ?_⟩
      conv => whnf
      (refine XG.freeze 1 ?_; (conv => whnf); refine XG.same ?_)
      conv => whnf
      refine (parses_s _ (by first | omega | (simp only [List.length_set, List.length_take, List.length_drop, List.length_append, two_len]; omega) | (simp; omega) | assumption | decide | simp)).call ?_
      rintro _ rfl
      conv => whnf
      refine both_f rfl ?_
      conv => whnf
      (refine ⟨_, row_set (wrap8 _).1 (wrap8 _).2, ?_⟩)
      conv => whnf
      refine (parses_s _ (by first | omega | (simp only [List.length_set, List.length_take, List.length_drop, List.length_append, two_len]; omega) | (simp; omega) | assumption | decide | simp)).call ?_
      rintro _ rfl
      conv => whnf
      refine both_f rfl ?_
      conv => whnf
      refine ⟨by (simp only [List.length_set]; rw [w64 _ (by omega) (by omega)]; omega), ?_⟩
      conv => whnf
      (refine ⟨_, row_cut (wrap8 _).1 (wrap8 _).2, ?_⟩)
      conv => whnf
      refine (sealed_s _ (by first | omega | (simp only [List.length_set, List.length_take, List.length_drop, List.length_append, two_len]; omega) | (simp; omega) | assumption | decide | simp)).call ?_
      rintro _ rfl
      conv => whnf
      refine (parses_s _ (by first | omega | (simp only [List.length_set, List.length_take, List.length_drop, List.length_append, two_len]; omega) | (simp; omega) | assumption | decide | simp)).call ?_
      rintro _ rfl
      conv => whnf
      refine both_f rfl ?_
      conv => whnf
      refine (next_s _ _ _ (by first | omega | (simp only [List.length_set, List.length_take, List.length_drop, List.length_append, two_len]; omega) | (simp; omega) | assumption | decide | simp) (by first | omega | (simp only [List.length_set, List.length_take, List.length_drop, List.length_append, two_len]; omega) | (simp; omega) | assumption | decide | simp) (by first | omega | (simp only [List.length_set, List.length_take, List.length_drop, List.length_append, two_len]; omega) | (simp; omega) | assumption | decide | simp)).call [0] (by decide) (And.intro rfl trivial) (And.intro rfl trivial) ?_
      rintro _ _ ⟨rfl, rfl⟩
      conv => whnf
      refine ⟨by omega, ?_⟩
      conv => whnf
      refine (parses_s _ (by first | omega | (simp only [List.length_set, List.length_take, List.length_drop, List.length_append, two_len]; omega) | (simp; omega) | assumption | decide | simp)).call ?_
      rintro _ rfl
      conv => whnf
      refine both_f rfl ?_
      conv => whnf
      refine ⟨by simp; omega, ?_⟩
      conv => whnf
      refine (parses_s _ (by first | omega | (simp only [List.length_set, List.length_take, List.length_drop, List.length_append, two_len]; omega) | (simp; omega) | assumption | decide | simp)).call ?_
      rintro _ rfl
      conv => whnf
      refine both_f rfl ?_
      conv => whnf
      (refine ⟨⟨(x.1.1 + 8, x.1.2 + 1), by show 0 ≤ x.1.1 + 8 ∧ x.1.1 + 8 ≤ 10 * ((x.1.2 + 1 : Nat) : Int) ∧ x.1.2 + 1 ≤ 5; omega⟩, by show 5 - (x.1.2 + 1) < 5 - x.1.2; omega, .of [some 0] (by rfl) ?_⟩)
      conv => whnf
      refine ⟨by rfl, ?_⟩
      conv => whnf
      refine ⟨by exact (w64 _ (by omega) (by omega)).trans (by simp), ?_⟩
      conv => whnf
      refine ⟨by rfl, ?_⟩
      conv => whnf
      refine ⟨by simp; omega, ?_⟩
      conv => whnf
      exact trivial
    · conv => whnf
      refine .same ?_
      conv => whnf
      refine ⟨fun hh0 => ?_, fun hh0 => ?_⟩
      · simp only [decide_eq_true_eq, decide_eq_false_iff_not] at hh0
        conv => whnf
      · simp only [decide_eq_true_eq, decide_eq_false_iff_not] at hh0
        conv => whnf
        refine (parses_s _ (by first | omega | (simp [two_len]; omega) | assumption | decide | simp)).call ?_
        rintro _ rfl
        conv => whnf
        refine both_t rfl ?_
        conv => whnf
        refine (sealed_s _ (by first | omega | (simp [two_len]; omega) | assumption | decide | simp)).call ?_
        rintro _ rfl
        conv => whnf
        refine (parses_s _ (by first | omega | (simp [two_len]; omega) | assumption | decide | simp)).call ?_
        rintro _ rfl
        conv => whnf
        refine both_t rfl ?_
        conv => whnf
        refine ⟨by simp; omega, ?_⟩
        conv => whnf
        refine (parses_s _ (by first | omega | (simp [two_len]; omega) | assumption | decide | simp)).call ?_
        rintro _ rfl
        conv => whnf
        refine both_t rfl ?_
        conv => whnf
        refine (awake8_s).call ?_
        rintro _ rfl
        conv => whnf
theorem packetRoundTripL (ls : List Int) (s : { s : List UInt8 // s.length ≤ 9223372036854775807 }) : PSpec Try.prog 5 [.rs 1 (nums ls), .str s.1] TrueS := packetRoundTrip_s ls s.1 s.2
theorem packetParseL (ls : List Int) (s : { s : List UInt8 // s.length ≤ 9223372036854775807 }) : PSpec Try.prog 4 [.rs 1 (nums ls), .str s.1] TrueS := packetParse_s ls s.1 s.2
theorem packetDamageL (ls : List Int) (at' b : Int) (_ : -9223372036854775808 ≤ at') (_ : at' ≤ 9223372036854775807) (b0 : 0 ≤ b) (b1 : b ≤ 255) : PSpec Try.prog 6 [.rs 1 (nums ls), .int .i64 at', .int .u8 b] TrueS := packetDamage_s ls at' b b0 b1
end Go.Proofs.Ytdommpfnoiemkaa
