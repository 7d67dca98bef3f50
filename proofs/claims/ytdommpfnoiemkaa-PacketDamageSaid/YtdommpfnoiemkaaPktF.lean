/- Chapter 8: records of headers. -/
import Derived.Test.YtdommpfnoiemkaaPktV
namespace Go.Proofs.Ytdommpfnoiemkaa
open Go.Sx
set_option linter.unusedSimpArgs false
set_option linter.unusedVariables false
def recB (h : Hd) : List UInt8 := [165, 1, UInt8.ofNat h.c.toNat] ++ twoB h.p ++ twoB h.l ++ twoB h.f ++ [UInt8.ofNat h.st.length] ++ h.st
def recD (h : Hd) : List UInt8 := recB h ++ twoB (ckV (recB h))
theorem nameOk_len {s : List UInt8} (h : nameOk s = true) : 1 ≤ s.length ∧ s.length ≤ 24 := by
  unfold nameOk at h
  rw [Bool.and_eq_true] at h
  exact of_decide_eq_true h.2
theorem hdOk_of {h : Hd} (a : hdOk h = true) : nameOk h.st = true ∧ hdP h := by
  unfold hdOk at a
  rw [Bool.and_eq_true] at a
  exact ⟨a.1, of_decide_eq_true a.2⟩
theorem u8c {n : Int} (h0 : 0 ≤ n) (h1 : n ≤ 255) : byteCell (UInt8.ofNat n.toNat) = [SV.int .u8 n] := by
  unfold byteCell; rw [u8_nat h0 h1]
theorem two_row {n : Int} (h0 : 0 ≤ n) (h1 : n ≤ 65535) : (twoB n).map byteCell = [[SV.int .u8 (n / 256)], [SV.int .u8 (n % 256)]] := by
  simp only [twoB, List.map_cons, List.map_nil]
  rw [u8c (by omega) (by omega), u8c (by omega) (by omega)]
theorem hi_b {n : Int} (h0 : 0 ≤ n) (h1 : n ≤ 65535) : IntKind.u8.wrap (n.fdiv (2 ^ min (Int.toNat 8) IntKind.i64.bits)) = n / 256 := by
  rw [show (2 : Int) ^ min (Int.toNat 8) IntKind.i64.bits = 256 from by decide, Int.fdiv_eq_ediv_of_nonneg _ (by omega), IntKind.wrap_u8]; omega
theorem lo_b {n : Int} (h0 : 0 ≤ n) (h1 : n ≤ 65535) : IntKind.u8.wrap n = n % 256 := by rw [IntKind.wrap_u8]
theorem lo_s {n : Int} (h0 : 0 ≤ n) (h1 : n ≤ 255) : IntKind.u8.wrap n = n := by rw [IntKind.wrap_u8]; omega
theorem rb_row (h : Hd) (hp : hdP h) (hn : h.st.length ≤ 255) : (recB h).map byteCell = [[.int .u8 165], [.int .u8 1], [.int .u8 h.c], [.int .u8 (h.p / 256)], [.int .u8 (h.p % 256)], [.int .u8 (h.l / 256)], [.int .u8 (h.l % 256)], [.int .u8 (h.f / 256)], [.int .u8 (h.f % 256)], [.int .u8 (h.st.length : Int)]] ++ h.st.map byteCell := by
  unfold hdP at hp
  have e : byteCell (UInt8.ofNat h.st.length) = [SV.int .u8 (h.st.length : Int)] := by
    have := u8c (n := (h.st.length : Int)) (by omega) (by omega)
    simpa using this
  simp only [recB, List.map_append, two_row (n := h.p) (by omega) (by omega), two_row (n := h.l) (by omega) (by omega), two_row (n := h.f) (by omega) (by omega), List.map_cons, List.map_nil, e, u8c (n := h.c) (by omega) (by omega)]
  rfl
theorem rd_row (h : Hd) (hp : hdP h) (hn : h.st.length ≤ 255) : (recD h).map byteCell = ([[.int .u8 165], [.int .u8 1], [.int .u8 h.c], [.int .u8 (h.p / 256)], [.int .u8 (h.p % 256)], [.int .u8 (h.l / 256)], [.int .u8 (h.l % 256)], [.int .u8 (h.f / 256)], [.int .u8 (h.f % 256)], [.int .u8 (h.st.length : Int)]] ++ h.st.map byteCell) ++ [[.int .u8 (ckV (recB h) / 256)], [.int .u8 (ckV (recB h) % 256)]] := by
  have r := ckV_rng (recB h)
  rw [recD, List.map_append, rb_row h hp hn, two_row (by omega) (by omega)]
def fmtR (h : Hd) : SV := if hdOk h then .tup [.str (recD h), .int .i64 0] else .tup [.str [], .int .i64 1]
theorem format_s (h : Hd) (hs : h.st.length ≤ 1000) : PSpec Try.prog 23 [hdE h] (· = fmtR h) := by
  refine .of_code' tab_ok Try.func23 (by rfl) rfl trivial ?_
  conv => whnf
  refine (pvalid_s h).call ?_
  rintro _ rfl
  conv => whnf
  refine ⟨fun hv => ?_, fun hv => ?_⟩
  · have hv : hdOk h = false := by simpa using hv
    conv => whnf
    (unfold fmtR; rw [hv]; rfl)
  · have hv : hdOk h = true := by simpa using hv
    have hn := nameOk_len (hdOk_of hv).1
    have hp := (hdOk_of hv).2
    unfold hdP at hp
    have hp0 := (hdOk_of hv).2
    have hl : (recB h).length ≤ 1000 := by simp [recB, twoB]; omega
    have cr := ckV_rng (recB h)
    have c0 := lo_s (n := h.c) (by omega) (by omega)
    have p1 := hi_b (n := h.p) (by omega) (by omega)
    have p2 := lo_b (n := h.p) (by omega) (by omega)
    have l1 := hi_b (n := h.l) (by omega) (by omega)
    have l2 := lo_b (n := h.l) (by omega) (by omega)
    have f1 := hi_b (n := h.f) (by omega) (by omega)
    have f2 := lo_b (n := h.f) (by omega) (by omega)
    have n1 := lo_s (n := (h.st.length : Int)) (by omega) (by omega)
    have k1 := hi_b (n := ckV (recB h)) (by omega) (by omega)
    have k2 := lo_b (n := ckV (recB h)) (by omega) (by omega)
    conv => whnf
    refine LoopG.unr tab_ok 4 ?_
    conv => whnf
    refine both_t rfl ?_
    conv => whnf
    refine ⟨by simp, ?_⟩
    conv => whnf
    refine ⟨_, rfl, ?_⟩
    conv => whnf
    refine ⟨by omega, ?_⟩
    conv => whnf
    refine ⟨by simp, ?_⟩
    conv => whnf
    refine both_t rfl ?_
    conv => whnf
    refine ⟨by (refine ⟨?_, ?_⟩ <;> simp [IntKind.wrap_i64]), ?_⟩
    conv => whnf
    refine ⟨_, rfl, ?_⟩
    conv => whnf
    refine ⟨by omega, ?_⟩
    conv => whnf
    refine ⟨by simp, ?_⟩
    conv => whnf
    refine both_t rfl ?_
    conv => whnf
    refine ⟨by (refine ⟨?_, ?_⟩ <;> simp [IntKind.wrap_i64]), ?_⟩
    conv => whnf
    refine ⟨_, rfl, ?_⟩
    conv => whnf
    refine ⟨by omega, ?_⟩
    conv => whnf
    refine ⟨by simp, ?_⟩
    conv => whnf
    refine both_f rfl ?_
    conv => whnf
    refine ⟨by simp, ?_⟩
    conv => whnf
    refine ⟨by simp; omega, ?_⟩
    conv => whnf
    (refine ⟨recB h, by rw [rb_row h hp0 (by omega)]; simp only [c0, p1, p2, l1, l2, f1, f2, n1]; rfl, ?_⟩)
    conv => whnf
    refine (csum_s _ (by first | omega | assumption | decide | simp)).call ?_
    rintro _ rfl
    conv => whnf
    refine ⟨by omega, ?_⟩
    conv => whnf
    refine ⟨by simp; omega, ?_⟩
    conv => whnf
    (refine ⟨recD h, by rw [rd_row h hp0 (by omega)]; simp only [c0, p1, p2, l1, l2, f1, f2, n1, k1, k2]; rfl, ?_⟩)
    conv => whnf
    (unfold fmtR; rw [hv]; rfl)
theorem rformat_s (h : Hd) (hs : h.st.length ≤ 1000) : PSpec Try.prog 20 [hdE h] (· = fmtR h) := by
  refine .of_code' tab_ok Try.func20 (by rfl) rfl trivial ?_
  conv => whnf
  refine (rvalidh_s h (by omega)).call ?_
  rintro _ rfl
  conv => whnf
  refine ⟨fun hv => ?_, fun hv => ?_⟩
  · have hv : hdOk h = false := by simpa using hv
    conv => whnf
    (unfold fmtR; rw [hv]; rfl)
  · have hv : hdOk h = true := by simpa using hv
    have hn := nameOk_len (hdOk_of hv).1
    have hp := (hdOk_of hv).2
    unfold hdP at hp
    have hp0 := (hdOk_of hv).2
    have hl : (recB h).length ≤ 1000 := by simp [recB, twoB]; omega
    have cr := ckV_rng (recB h)
    have c0 := lo_s (n := h.c) (by omega) (by omega)
    have p1 := hi_b (n := h.p) (by omega) (by omega)
    have p2 := lo_b (n := h.p) (by omega) (by omega)
    have l1 := hi_b (n := h.l) (by omega) (by omega)
    have l2 := lo_b (n := h.l) (by omega) (by omega)
    have f1 := hi_b (n := h.f) (by omega) (by omega)
    have f2 := lo_b (n := h.f) (by omega) (by omega)
    have n1 := lo_s (n := (h.st.length : Int)) (by omega) (by omega)
    have k1 := hi_b (n := ckV (recB h)) (by omega) (by omega)
    have k2 := lo_b (n := ckV (recB h)) (by omega) (by omega)
    have e1 : byteCell (UInt8.ofNat h.st.length) = [SV.int .u8 (h.st.length : Int)] := by
      have := u8c (n := (h.st.length : Int)) (by omega) (by omega)
      simpa using this
    conv => whnf
    refine DrawG.of mixed tab_ok ?_
    conv => whnf
    (refine ⟨[UInt8.ofNat h.c.toNat], by rw [c0, List.map_cons, u8c (by omega) (by omega)]; rfl, ?_⟩)
    conv => whnf
    refine ⟨by simp, ?_⟩
    conv => whnf
    refine (two_s _ (by first | omega | (simp [twoB] <;> omega) | assumption | decide | simp) (by first | omega | (simp [twoB] <;> omega) | assumption | decide | simp)).calld ?_
    conv => whnf
    refine ⟨by (simp [twoB] <;> omega), ?_⟩
    conv => whnf
    refine (two_s _ (by first | omega | (simp [twoB] <;> omega) | assumption | decide | simp) (by first | omega | (simp [twoB] <;> omega) | assumption | decide | simp)).calld ?_
    conv => whnf
    refine ⟨by (simp [twoB] <;> omega), ?_⟩
    conv => whnf
    refine (two_s _ (by first | omega | (simp [twoB] <;> omega) | assumption | decide | simp) (by first | omega | (simp [twoB] <;> omega) | assumption | decide | simp)).calld ?_
    conv => whnf
    refine ⟨by (simp [twoB] <;> omega), ?_⟩
    conv => whnf
    (refine ⟨[UInt8.ofNat h.st.length], by rw [n1, List.map_cons, e1]; rfl, ?_⟩)
    conv => whnf
    refine ⟨by (simp [twoB] <;> omega), ?_⟩
    conv => whnf
    refine ⟨by (simp [twoB] <;> omega), ?_⟩
    conv => whnf
    refine (sealed_s _ (by first | omega | (simp [twoB] <;> omega) | assumption | decide | simp)).calld ?_
    conv => whnf
    refine ⟨by kernel_rfl, ?_⟩
    conv => whnf
    (unfold fmtR; rw [hv]; rfl)
end Go.Proofs.Ytdommpfnoiemkaa
