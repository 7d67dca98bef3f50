/- Lemmas and contracts, part 4 of 4. No statement of the seat is proved here. -/
import Derived.Test.YtdommpfnoiemkaaBn3
import Derived.ProofKit
import Derived.OpenShut
import Derived.ChangeOld
import Derived.Deep.Slices
import Derived.Deep.Fields
import Derived.ChangeSame
import Derived.Test.YtdommpfnoiemkaaRows
import Derived.Lib.SmallJoins
import Derived.ChangeMaps5
import Derived.Deep.Grids
/- Chapter 27: what has been encoded is read back, and what is decoded is encoded to the same string. -/
namespace Go.Proofs.Ytdommpfnoiemkaa
open Go.Sx
set_option linter.unusedSimpArgs false
set_option linter.unusedVariables false
theorem decEnc_s {s : List UInt8} {c : Cf} {l : List Ev} {e : Int} (h : decR s = (c, l, e)) (he : e = 0) (hs : s.length ≤ 2000) : PSpec Try.prog 53 [cfE c, .rs 6 (l.map evE)] (· = .tup [.str s, .int .i64 0]) := by
  subst he
  obtain ⟨b1, b2⟩ : c.rs.length ≤ 9223372036854775807 ∧ l.length ≤ 9223372036854775807 := by
    have hb := decR_bnd s
    rw [h] at hb
    exact ⟨Nat.le_trans hb.1 (by decide), Nat.le_trans hb.2.1 (by decide)⟩
  have h2 := encode_s c l b1 b2
  rw [(decR_inv h).2] at h2
  exact h2
theorem hevsO_s {l : List Ev} (he : evsOk l = true) (hl : l.length ≤ 100) : PSpec Try.prog 56 [.rs 6 (l.map evE), .rs 6 (l.map evE)] (· = .bool true) :=
  hevs_s l (by omega) fun i => by
    by_cases hi : i < l.length
    · have h := List.all_eq_true.1 he _ (List.getElem_mem hi)
      have h : evP l[i] := of_decide_eq_true h
      simp only [List.getD, List.getElem?_eq_getElem hi, Option.getD_some]
      unfold evP at h
      omega
    · simp only [List.getD, List.getElem?_eq_none (Nat.le_of_not_lt hi), Option.getD_none]
      decide
set_option maxRecDepth 100000 in
set_option maxHeartbeats 8000000 in
theorem scriptRoundTrip_s (ls : List Int) (s : List UInt8) (hs : s.length ≤ 9223372036854775807) : PSpec Try.prog 12 [.rs 1 (nums ls), .str s] TrueS := by
  refine .of_code' tab_ok Try.func12 (by rfl) rfl trivial ?_
  have n0 := nxt_lo ls 0 3
  have n1 := nxt_hi ls 0 3 (by omega)
  conv => whnf
  refine CallG.of_code tab_ok Try.func14 (by rfl) rfl ?_
  conv => whnf
  refine (gmode_s ls 0 (by omega) (by omega)).call [0] (by decide) trivial (And.intro rfl trivial) ?_
  rintro _ _ ⟨rfl, rfl⟩
  conv => whnf
  refine (gcfg_s ls (0 + 1) _ (by omega) (by omega)).call [0] (by decide) (And.intro rfl trivial) (And.intro rfl trivial) ?_
  rintro _ _ ⟨rfl, rfl⟩
  have hc := cfX_ok ls (0 + 1) (1 + nxt ls 0 3) (by omega) (by omega)
  have hA := cfA_rng ls (0 + 1)
  obtain ⟨c, ec⟩ : ∃ c, c = cfX ls (0 + 1) (1 + nxt ls 0 3) := ⟨_, rfl⟩
  obtain ⟨a, ea⟩ : ∃ a, a = cfA ls (0 + 1) := ⟨_, rfl⟩
  rw [← ec] at hc ⊢
  rw [← ea] at hA ⊢
  obtain ⟨d0, d1⟩ := cfOk_of hc
  have hr : c.rs.length ≤ 12 := d0.2.2.2.2.2.2.2.2.2.2.2.2.2.2.2.2
  conv => whnf
  refine (gevents_w ls a 8 (by decide) (by omega) (by omega)).call [0, 2] (by rfl) (by repeat' (first | exact trivial | exact rfl | apply And.intro)) (by repeat' (first | exact trivial | exact rfl | apply And.intro)) ?_
  rintro _ _ ⟨l, a', rfl, rfl, k1, k2, k3, k4⟩
  have hm : (l.map evE).length = l.length := List.length_map ..
  conv => whnf
  refine LoopG.inv tab_ok 105 (fun i : { i : Nat // i ≤ l.length } => [(1, .str s), (5, .ptr 0 0), (6, .ptr 1 0), (7, .sl 3), (8, .sl 2), (9, .int .i64 (i.1 : Int))])
    (fun i => [chs ls a', .fix 71 (cfC c), .row 74 6 (l.map evE), .row 74 6 (((l.take i.1).filter evOk).map evE)]) (fun i => l.length - i.1) ⟨0, by omega⟩ (.of [some 0, some 1, some 2, none] (by rfl) ?_) ?_
  · conv => whnf
    refine ⟨by rfl, ?_⟩
    conv => whnf
    refine ⟨by rfl, ?_⟩
    conv => whnf
    refine ⟨by rfl, ?_⟩
    conv => whnf
    refine ⟨by rfl, ?_⟩
    conv => whnf
    refine ⟨by rfl, ?_⟩
    conv => whnf
    refine ⟨by rfl, ?_⟩
    conv => whnf
    refine ⟨by rfl, ?_⟩
    conv => whnf
    refine ⟨by rfl, ?_⟩
    conv => whnf
    refine ⟨by rfl, ?_⟩
    conv => whnf
    refine ⟨by rfl, ?_⟩
    conv => whnf
    refine ⟨by rfl, ?_⟩
    conv => whnf
    refine ⟨by rfl, ?_⟩
    conv => whnf
    refine ⟨by rfl, ?_⟩
    conv => whnf
    refine ⟨by rfl, ?_⟩
    conv => whnf
    refine ⟨by rfl, ?_⟩
    conv => whnf
    refine ⟨by rfl, ?_⟩
    conv => whnf
    refine ⟨by rfl, ?_⟩
    conv => whnf
    refine ⟨by rfl, ?_⟩
    conv => whnf
    refine ⟨by rfl, ?_⟩
    conv => whnf
    refine ⟨by rfl, ?_⟩
    conv => whnf
    refine ⟨by rfl, ?_⟩
    conv => whnf
    exact trivial
  · intro i
    have hi := i.2
    have hf : (List.filter evOk (List.take i.1 l)).length ≤ l.length := Nat.le_trans (List.length_filter_le _ _) (by rw [List.length_take]; omega)
    conv => whnf
    refine ⟨fun hb => ?_, fun hb => ?_⟩
    · have hb : i.1 < l.length := by simp only [decide_eq_true_eq, hm] at hb; omega
      have hg := ev_get hb
      have ht := filt_take hb
      obtain ⟨e, he⟩ : ∃ e, e = l.getD i.1 ev0 := ⟨_, rfl⟩
      rw [← he] at hg ht
      conv => whnf
      refine ⟨by omega, ?_⟩
      conv => whnf
      (refine ⟨_, hg, ?_⟩)
      conv => whnf
      refine (revv_s _).call ?_
      rintro _ rfl
      conv => whnf
      refine ⟨fun hh11 => ?_, fun hh11 => ?_⟩
      · skip
        conv => whnf
        refine ⟨by omega, ?_⟩
        conv => whnf
        (refine ⟨_, hg, ?_⟩)
        conv => whnf
        refine ⟨by simp; omega, ?_⟩
        conv => whnf
        (refine ⟨⟨i.1 + 1, by omega⟩, (by show l.length - (i.1 + 1) < l.length - i.1; omega), .of [some 0, some 1, some 2, some 5] (by rfl) ?_⟩; (conv => whnf); (repeat (first | exact trivial | (refine ⟨rfl, ?_⟩; (conv => whnf)) | (refine ⟨(w64 _ (by omega) (by omega)).trans (by simp), ?_⟩; (conv => whnf)) | (refine ⟨(by rw [ht, if_pos ‹evOk e = true›, List.map_append]; rfl), ?_⟩; (conv => whnf)) | (refine ⟨(by rw [ht, if_neg (by rw [‹evOk e = false›]; decide), List.append_nil]), ?_⟩; (conv => whnf)))); done)
      · skip
        conv => whnf
        (refine ⟨⟨i.1 + 1, by omega⟩, (by show l.length - (i.1 + 1) < l.length - i.1; omega), .of [some 0, some 1, some 2, some 3] (by rfl) ?_⟩; (conv => whnf); (repeat (first | exact trivial | (refine ⟨rfl, ?_⟩; (conv => whnf)) | (refine ⟨(w64 _ (by omega) (by omega)).trans (by simp), ?_⟩; (conv => whnf)) | (refine ⟨(by rw [ht, if_pos ‹evOk e = true›, List.map_append]; rfl), ?_⟩; (conv => whnf)) | (refine ⟨(by rw [ht, if_neg (by rw [‹evOk e = false›]; decide), List.append_nil]), ?_⟩; (conv => whnf)))); done)
    · have hb : i.1 = l.length := by simp only [decide_eq_false_iff_not, hm] at hb; omega
      have hx : (l.take i.1).filter evOk = l.filter evOk := by rw [hb, List.take_length]
      rw [hx]
      have hlf := filt_le l
      have ho := evsOk_filt l
      obtain ⟨v, hv⟩ : ∃ v, v = l.filter evOk := ⟨_, rfl⟩
      rw [← hv] at hlf ho ⊢
      have hl100 : v.length ≤ 100 := by omega
      have e1 := encodeO_s hc ho hl100
      have e2 := decodeO_s hc ho hl100
      have e3 := hcfg_s c (by omega)
      have e4 := hevsO_s ho hl100
      conv => whnf
      refine .same ?_
      conv => whnf
      refine e1.lend (And.intro rfl (And.intro rfl trivial)) ?_
      rintro _ rfl
      conv => whnf
      refine e2.call ?_
      rintro _ rfl
      conv => whnf
      refine both_f (by simp) ?_
      conv => whnf
      refine both_f (by simp) ?_
      conv => whnf
      refine e3.call ?_
      rintro _ rfl
      conv => whnf
      refine both_f (by simp) ?_
      conv => whnf
      refine e4.lend (by repeat' (first | exact trivial | exact rfl | apply And.intro)) ?_
      rintro _ rfl
      conv => whnf
      obtain ⟨⟨z, o, g⟩, hd⟩ : ∃ r, decR s = r := ⟨_, rfl⟩
      have e5 := decode_s s hs
      rw [hd] at e5
      conv => whnf
      refine both_f rfl ?_
      conv => whnf
      refine ⟨fun hh0 => ?_, fun hh0 => ?_⟩
      · simp only [decide_eq_true_eq, decide_eq_false_iff_not] at hh0
        conv => whnf
        refine (awake_s).call ?_
        rintro _ rfl
        conv => whnf
      · simp only [decide_eq_true_eq, decide_eq_false_iff_not] at hh0
        have hs2 : s.length ≤ 2000 := by omega
        conv => whnf
        refine e5.call ?_
        rintro _ rfl
        conv => whnf
        refine ⟨fun hh1 => ?_, fun hh1 => ?_⟩
        · conv => whnf
          refine (awake_s).call ?_
          rintro _ rfl
          conv => whnf
        · have hg : g = 0 := by simpa using hh1
          have e6 := decEnc_s hd hg hs2
          conv => whnf
          refine e6.call ?_
          rintro _ rfl
          conv => whnf
          refine both_t rfl ?_
          conv => whnf
          refine both_t (by simp) ?_
          conv => whnf
          refine (awake_s).call ?_
          rintro _ rfl
          conv => whnf
end Go.Proofs.Ytdommpfnoiemkaa

/- Chapter 27: what is decoded. -/
namespace Go.Proofs.Ytdommpfnoiemkaa
open Go.Sx
set_option linter.unusedSimpArgs false
set_option linter.unusedVariables false
theorem byt_row {d : List UInt8} (i : Nat) (h : i < d.length) : (d.map byteCell)[i]? = some [SV.int .u8 (byt d i)] := by
  rw [List.getElem?_map, List.getElem?_eq_getElem h]
  simp [byteCell, byt, List.getD, List.getElem?_eq_getElem h]
theorem row_cut2 {t : List UInt8} {k j : Nat} : ((t.map byteCell).take k).drop j = ((t.take k).drop j).map byteCell := by rw [List.map_drop, List.map_take]
set_option maxRecDepth 100000 in
set_option maxHeartbeats 8000000 in
theorem scriptDecode_s (ls : List Int) (s : List UInt8) (hs : s.length ≤ 9223372036854775807) : PSpec Try.prog 11 [.rs 1 (nums ls), .str s] TrueS := by
  refine .of_code' tab_ok Try.func11 (by rfl) rfl trivial ?_
  conv => whnf
  refine CallG.of_code tab_ok Try.func14 (by rfl) rfl ?_
  conv => whnf
  refine LoopG.inv tab_ok 113 (fun x : { x : Int × Nat // 0 ≤ x.1 ∧ x.1 ≤ 200 * (x.2 : Int) ∧ x.2 ≤ 4 } => [(1, .str s), (5, .ptr 0 0), (6, .int .i64 (x.1.2 : Int))])
    (fun x => [chs ls x.1.1]) (fun x => 4 - x.1.2) ⟨(0, 0), by simp⟩ (.of [some 0] (by rfl) ?_) ?_
  · conv => whnf
    refine ⟨by rfl, ?_⟩
    conv => whnf
    refine ⟨by rfl, ?_⟩
    conv => whnf
    refine ⟨by rfl, ?_⟩
    conv => whnf
    refine ⟨by rfl, ?_⟩
    conv => whnf
    exact trivial
  · intro x
    have hx := x.2
    conv => whnf
    refine ⟨fun hb => ?_, fun hb => ?_⟩
    · have hb : x.1.2 < 4 := by simp only [decide_eq_true_eq] at hb; omega
      have u0 := nxt_lo ls x.1.1 3
      have u1 := nxt_hi ls x.1.1 3 (by omega)
      have v0 := nxt_lo ls (x.1.1 + 1) 6
      have v1 := nxt_hi ls (x.1.1 + 1) 6 (by omega)
      obtain ⟨n, hn⟩ : ∃ n : Nat, nxt ls (x.1.1 + 1) 6 = (n : Int) := ⟨(nxt ls (x.1.1 + 1) 6).toNat, by omega⟩
      conv => whnf
      refine (gmode_s ls x.1.1 (by omega) (by omega)).call [0] (by decide) trivial (And.intro rfl trivial) ?_
      rintro _ _ ⟨rfl, rfl⟩
      conv => whnf
      refine (next_s ls (x.1.1 + 1) 6 (by omega) (by omega) (by omega)).call [0] (by decide) (And.intro rfl trivial) (And.intro rfl trivial) ?_
      rintro _ _ ⟨rfl, rfl⟩
      rw [hn]
      conv => whnf
      refine (gscript_s ls (x.1.1 + 1 + 1) (1 + nxt ls x.1.1 3) n (by omega) (by omega) (by omega) (by omega) (by omega)).call [0] (by decide) (And.intro rfl (And.intro rfl trivial)) (And.intro rfl trivial) ?_
      rintro _ _ ⟨c, l, a', rfl, rfl, hc, ho, hl, a0, a1⟩
      have hs1 := scrD_small hc ho (by omega)
      have hs5 := scrD_5 c l
      obtain ⟨d, hd⟩ : ∃ d, d = scrD c l := ⟨_, rfl⟩
      rw [← hd] at hs1 hs5 ⊢
      have hm : (d.map byteCell).length = d.length := List.length_map ..
      have n0 := nxt_lo ls a' ((d.map byteCell).length : Int)
      have n1 := nxt_hi ls a' ((d.map byteCell).length : Int) (by omega)
      have m0 := nxt_lo ls (a' + 1) 255
      have m1 := nxt_hi ls (a' + 1) 255 (by omega)
      conv => whnf
      refine both_f (by simp; omega) ?_
      conv => whnf
      refine ⟨by omega, ?_⟩
      conv => whnf
      refine DrawG.xg ?_
      conv => whnf
      refine DrawG.of mixed tab_ok ?_
      conv => whnf
      refine (next_s _ _ _ (by omega) (by omega) (by omega)).calld [0] (by decide) rfl (And.intro rfl trivial) (And.intro rfl trivial) ?_
      conv => whnf
      refine ⟨by omega, ?_⟩
      conv => whnf
      refine ⟨_, byt_row _ (by omega), ?_⟩
      conv => whnf
      refine (next_s _ _ _ (by omega) (by omega) (by omega)).calld [0] (by decide) rfl (And.intro rfl trivial) (And.intro rfl trivial) ?_
      conv => whnf
      refine ⟨by omega, ?_⟩
      conv => whnf
      refine ⟨_, byt_row _ (by omega), ?_⟩
      conv => whnf
      refine ⟨by kernel_rfl, ?_⟩
      rw [row_set (wrap8 _).1 (wrap8 _).2]
      obtain ⟨t, ht⟩ : ∃ t, t = d.set (nxt ls a' ((d.map byteCell).length : Int)).toNat (UInt8.ofNat (IntKind.u8.wrap ↑(BitVec.ofInt IntKind.u8.bits (byt d (nxt ls a' ↑(List.map byteCell d).length).toNat) ^^^ BitVec.ofInt IntKind.u8.bits (IntKind.u8.wrap (IntKind.i64.wrap (1 + nxt ls (a' + 1) 255)))).toNat).toNat) := ⟨_, rfl⟩
      have htl : t.length = d.length := by rw [ht, List.length_set]
      have hmt : (t.map byteCell).length = t.length := List.length_map ..
      rw [← ht]
      have w4 : IntKind.i64.wrap (((t.map byteCell).length : Int) - 4) = ((d.length - 4 : Nat) : Int) := by rw [w64 _ (by omega) (by omega)]; omega
      have k0 := nxt_lo ls (a' + 1 + 1) ((d.length - 4 : Nat) : Int)
      have k1 := nxt_hi ls (a' + 1 + 1) ((d.length - 4 : Nat) : Int) (by omega)
      have w3 : IntKind.i64.wrap (3 + nxt ls (a' + 1 + 1) ((d.length - 4 : Nat) : Int)) = 3 + nxt ls (a' + 1 + 1) ((d.length - 4 : Nat) : Int) := w64 _ (by omega) (by omega)
      have w2 : IntKind.i64.wrap (((t.map byteCell).length : Int) - 2) = ((d.length - 2 : Nat) : Int) := by rw [w64 _ (by omega) (by omega)]; omega
      have z0 := nxt_lo ls (a' + 1 + 1 + 1) (d.length : Int)
      have z1 := nxt_hi ls (a' + 1 + 1 + 1) (d.length : Int) (by omega)
      conv => whnf
      refine XG.freeze 1 ?_
      conv => whnf
      refine XG.same ?_
      conv => whnf
      rw [w4]
      refine (next_s ls (a' + 1 + 1) _ (by omega) (by omega) (by omega)).call [0] (by decide) (And.intro rfl trivial) (And.intro rfl trivial) ?_
      rintro _ _ ⟨rfl, rfl⟩
      conv => whnf
      rw [w3]
      conv => whnf
      refine DrawG.of mixed tab_ok ?_
      conv => whnf
      refine (decodes_s _ (by first | omega | (simp [two_len]; omega) | (simp only [List.length_append, List.length_take, List.length_drop, two_len, List.length_cons, List.length_nil]; omega) | assumption | decide | simp)).calld ?_
      conv => whnf
      refine both_f rfl ?_
      conv => whnf
      refine ⟨_, rfl, ?_⟩
      conv => whnf
      refine (decodes_s _ (by first | omega | (simp [two_len]; omega) | (simp only [List.length_append, List.length_take, List.length_drop, two_len, List.length_cons, List.length_nil]; omega) | assumption | decide | simp)).calld ?_
      conv => whnf
      refine both_f rfl ?_
      conv => whnf
      refine ⟨by omega, ?_⟩
      conv => whnf
      (refine ⟨_, row_cut2, ?_⟩)
      conv => whnf
      refine (sealed_s _ (by first | omega | (simp [two_len]; omega) | (simp only [List.length_append, List.length_take, List.length_drop, two_len, List.length_cons, List.length_nil]; omega) | assumption | decide | simp)).calld ?_
      conv => whnf
      refine (decodes_s _ (by first | omega | (simp [two_len]; omega) | (simp only [List.length_append, List.length_take, List.length_drop, two_len, List.length_cons, List.length_nil]; omega) | assumption | decide | simp)).calld ?_
      conv => whnf
      refine both_f rfl ?_
      conv => whnf
      refine ⟨by omega, ?_⟩
      conv => whnf
      refine (sealed_s _ (by first | omega | (simp [two_len]; omega) | (simp only [List.length_append, List.length_take, List.length_drop, two_len, List.length_cons, List.length_nil]; omega) | assumption | decide | simp)).calld ?_
      conv => whnf
      refine (decodes_s _ (by first | omega | (simp [two_len]; omega) | (simp only [List.length_append, List.length_take, List.length_drop, two_len, List.length_cons, List.length_nil]; omega) | assumption | decide | simp)).calld ?_
      conv => whnf
      refine both_f rfl ?_
      conv => whnf
      refine ⟨by omega, ?_⟩
      conv => whnf
      refine ⟨by simp; omega, ?_⟩
      conv => whnf
      refine ⟨by omega, ?_⟩
      conv => whnf
      refine ⟨by simp; omega, ?_⟩
      conv => whnf
      refine (sealed_s _ (by first | omega | (simp [two_len]; omega) | (simp only [List.length_append, List.length_take, List.length_drop, two_len, List.length_cons, List.length_nil]; omega) | assumption | decide | simp)).calld ?_
      conv => whnf
      refine (decodes_s _ (by first | omega | (simp [two_len]; omega) | (simp only [List.length_append, List.length_take, List.length_drop, two_len, List.length_cons, List.length_nil]; omega) | assumption | decide | simp)).calld ?_
      conv => whnf
      refine both_f rfl ?_
      conv => whnf
      refine (next_s _ _ _ (by first | omega | (simp [two_len]; omega) | (simp only [List.length_append, List.length_take, List.length_drop, two_len, List.length_cons, List.length_nil]; omega) | assumption | decide | simp) (by first | omega | (simp [two_len]; omega) | (simp only [List.length_append, List.length_take, List.length_drop, two_len, List.length_cons, List.length_nil]; omega) | assumption | decide | simp) (by first | omega | (simp [two_len]; omega) | (simp only [List.length_append, List.length_take, List.length_drop, two_len, List.length_cons, List.length_nil]; omega) | assumption | decide | simp)).calld [0] (by decide) rfl (And.intro rfl trivial) (And.intro rfl trivial) ?_
      conv => whnf
      refine ⟨by omega, ?_⟩
      conv => whnf
      refine (decodes_s _ (by first | omega | (simp [two_len]; omega) | (simp only [List.length_append, List.length_take, List.length_drop, two_len, List.length_cons, List.length_nil]; omega) | assumption | decide | simp)).calld ?_
      conv => whnf
      refine ⟨by kernel_rfl, ?_⟩
      conv => whnf
      refine both_f rfl ?_
      conv => whnf
      (refine ⟨⟨(a' + 1 + 1 + 1 + 1, x.1.2 + 1), by show 0 ≤ a' + 1 + 1 + 1 + 1 ∧ a' + 1 + 1 + 1 + 1 ≤ 200 * ((x.1.2 + 1 : Nat) : Int) ∧ x.1.2 + 1 ≤ 4; omega⟩, by show 4 - (x.1.2 + 1) < 4 - x.1.2; omega, .of [some 0] (by rfl) ?_⟩)
      conv => whnf
      refine ⟨by rfl, ?_⟩
      conv => whnf
      refine ⟨by exact (w64 _ (by omega) (by omega)).trans (by simp), ?_⟩
      conv => whnf
      refine ⟨by rfl, ?_⟩
      conv => whnf
      refine ⟨by rfl, ?_⟩
      conv => whnf
      exact trivial
    · conv => whnf
      refine .same ?_
      conv => whnf
      refine ⟨fun hh0 => ?_, fun hh0 => ?_⟩
      · simp only [decide_eq_true_eq, decide_eq_false_iff_not] at hh0
        conv => whnf
        refine (awake_s).call ?_
        rintro _ rfl
        conv => whnf
      · simp only [decide_eq_true_eq, decide_eq_false_iff_not] at hh0
        conv => whnf
        refine (decodes_s _ (by first | omega | (simp [two_len]; omega) | assumption | decide | simp)).call ?_
        rintro _ rfl
        conv => whnf
        refine both_t rfl ?_
        conv => whnf
        refine ⟨by simp; omega, ?_⟩
        conv => whnf
        refine (sealed_s _ (by first | omega | (simp [two_len]; omega) | assumption | decide | simp)).call ?_
        rintro _ rfl
        conv => whnf
        refine (decodes_s _ (by first | omega | (simp [two_len]; omega) | assumption | decide | simp)).call ?_
        rintro _ rfl
        conv => whnf
        refine both_t rfl ?_
        conv => whnf
        refine (awake_s).call ?_
        rintro _ rfl
        conv => whnf
theorem scriptDecodeL (ls : List Int) (s : { s : List UInt8 // s.length ≤ 9223372036854775807 }) : PSpec Try.prog 11 [.rs 1 (nums ls), .str s.1] TrueS := scriptDecode_s ls s.1 s.2
end Go.Proofs.Ytdommpfnoiemkaa

/- Chapter 27: configurations with one field changed. -/
namespace Go.Proofs.Ytdommpfnoiemkaa
open Go.Sx
set_option linter.unusedSimpArgs false
set_option linter.unusedVariables false
def spL : List Int := [-1, 0, 1, 16, 17, 64, 65, 255, 256, 512, 513, 1048576, 1048577, 1099511627776, 1099511627777]
theorem nums_get {l : List Int} {i : Int} (h0 : 0 ≤ i) (h1 : i < (l.length : Int)) : (nums l)[i.toNat]? = some [SV.int .i64 (l.getD i.toNat 0)] := by
  rw [show nums l = l.map fun n => [SV.int .i64 n] from rfl, List.getElem?_map, List.getElem?_eq_getElem (by omega)]
  simp [List.getD, List.getElem?_eq_getElem (show i.toNat < l.length by omega)]
theorem freeL_agg {l : List SV} (h : ∀ s ∈ l, FreeSV s) : FreeSV (.agg l) := fun w E σ σ' v hr => by
  cases hr with
  | agg hl h1 hc => exact .agg hl h1 fun i s v hs hv => h s (List.mem_of_getElem? hs) w E σ σ' v (hc i s v hs hv)
theorem free_int (k : IntKind) (n : Int) : FreeSV (.int k n) := fun w E σ σ' v h => by cases h; exact .int
theorem free_rs (z : Nat) (es : List (List SV)) : FreeSV (.rs z es) := fun w E σ σ' v h => by cases h <;> constructor <;> assumption
theorem free_cf (c : Cf) : FreeSV (cfE c) := freeL_agg fun s hs => by
  simp only [List.mem_cons, List.not_mem_nil, or_false] at hs
  rcases hs with rfl | rfl | rfl | rfl | rfl | rfl | rfl | rfl | rfl | rfl | rfl | rfl | rfl | rfl | rfl <;> first | exact free_int _ _ | exact free_rs _ _
theorem free_ev (e : Ev) : FreeSV (.agg (evE e)) := freeL_agg fun s hs => by
  simp only [List.mem_cons, List.not_mem_nil, or_false] at hs
  rcases hs with rfl | rfl | rfl | rfl | rfl | rfl <;> first | exact free_int _ _ | exact free_rs _ _ | exact free_str _
theorem sle_cfn {a b c d e f g h i j k l m n : Int} : SLe (.agg [.int .i64 a, .int .i64 b, .int .i64 c, .int .i64 d, .int .i64 e, .int .i64 f, .int .i64 g, .int .i64 h, .int .i64 i, .int .i64 j, .int .i64 k, .int .i64 l, .int .i64 m, .int .i64 n, .nils]) (cfE ⟨a, b, c, d, e, f, g, h, i, j, k, l, m, n, []⟩) :=
  .agg (.cons (.refl _) (.cons (.refl _) (.cons (.refl _) (.cons (.refl _) (.cons (.refl _) (.cons (.refl _) (.cons (.refl _) (.cons (.refl _) (.cons (.refl _) (.cons (.refl _) (.cons (.refl _) (.cons (.refl _) (.cons (.refl _) (.cons (.refl _) (.cons .nil .nil)))))))))))))))
theorem sle_cfr {a b c d e f g h i j k l m n : Int} {es : List (List SV)} {rs : List (Int × Int)} (q : es = rs.map rtE) : SLe (.agg [.int .i64 a, .int .i64 b, .int .i64 c, .int .i64 d, .int .i64 e, .int .i64 f, .int .i64 g, .int .i64 h, .int .i64 i, .int .i64 j, .int .i64 k, .int .i64 l, .int .i64 m, .int .i64 n, .rs 2 es]) (cfE ⟨a, b, c, d, e, f, g, h, i, j, k, l, m, n, rs⟩) := by
  subst q; exact .refl _
theorem spoil0_s (ls : List Int) (a : Int) (c : Cf) (hc : c.rs.length ≤ 1000) (h0 : 0 ≤ a) (h1 : a < 9223372036854600000) :
    OSpec Try.prog 40 [.ptr 0 0, cfE c] [chs ls a] fun s ho => ∃ (c' : Cf) (a' : Int), SLe s (cfE c') ∧ ho = [chs ls a'] ∧ c'.rs.length ≤ c.rs.length + 13 ∧ a ≤ a' ∧ a' ≤ a + 3 := by
  refine .of_code tab_ok Try.func40 (by rfl) rfl trivial ?_
  have n0 := nxt_lo ls a 15
  have n1 := nxt_hi ls a 15 (by omega)
  have hm : (c.rs.map rtE).length = c.rs.length := List.length_map ..
  conv => whnf
  conv => whnf
  refine (next_s _ _ _ (by first | omega | assumption | decide | simp) (by first | omega | assumption | decide | simp) (by first | omega | assumption | decide | simp)).call [0] (by decide) (And.intro rfl trivial) (And.intro rfl trivial) ?_
  rintro _ _ ⟨rfl, rfl⟩
  conv => whnf
  refine ⟨by simp; omega, ?_⟩
  conv => whnf
  (refine ⟨_, nums_get (l := spL) (nxt_lo _ _ _) (nxt_hi _ _ _ (by omega)), ?_⟩)
  conv => whnf
  refine (next_s _ _ _ (by first | omega | assumption | decide | simp) (by first | omega | assumption | decide | simp) (by first | omega | assumption | decide | simp)).call [0] (by decide) (And.intro rfl trivial) (And.intro rfl trivial) ?_
  rintro _ _ ⟨rfl, rfl⟩
  conv => whnf
  refine ⟨fun hh21 => ?_, fun hh21 => ?_⟩
  · simp only [decide_eq_true_eq, decide_eq_false_iff_not] at hh21
    conv => whnf
    (exact ⟨⟨_, _, _, _, _, _, _, _, _, _, _, _, _, _, _⟩, _, sle_cfr rfl, rfl, by simp, by omega, by omega⟩)
  · simp only [decide_eq_true_eq, decide_eq_false_iff_not] at hh21
    conv => whnf
    refine ⟨fun hh23 => ?_, fun hh23 => ?_⟩
    · simp only [decide_eq_true_eq, decide_eq_false_iff_not] at hh23
      conv => whnf
      (exact ⟨⟨_, _, _, _, _, _, _, _, _, _, _, _, _, _, _⟩, _, sle_cfr rfl, rfl, by simp, by omega, by omega⟩)
    · simp only [decide_eq_true_eq, decide_eq_false_iff_not] at hh23
      conv => whnf
      refine ⟨fun hh25 => ?_, fun hh25 => ?_⟩
      · simp only [decide_eq_true_eq, decide_eq_false_iff_not] at hh25
        conv => whnf
        (exact ⟨⟨_, _, _, _, _, _, _, _, _, _, _, _, _, _, _⟩, _, sle_cfr rfl, rfl, by simp, by omega, by omega⟩)
      · simp only [decide_eq_true_eq, decide_eq_false_iff_not] at hh25
        conv => whnf
        refine ⟨fun hh27 => ?_, fun hh27 => ?_⟩
        · simp only [decide_eq_true_eq, decide_eq_false_iff_not] at hh27
          conv => whnf
          refine (next_s _ _ _ (by first | omega | assumption | decide | simp) (by first | omega | assumption | decide | simp) (by first | omega | assumption | decide | simp)).call [0] (by decide) (And.intro rfl trivial) (And.intro rfl trivial) ?_
          rintro _ _ ⟨rfl, rfl⟩
          conv => whnf
          (exact ⟨⟨_, _, _, _, _, _, _, _, _, _, _, _, _, _, _⟩, _, sle_cfr rfl, rfl, by simp, by omega, by omega⟩)
        · simp only [decide_eq_true_eq, decide_eq_false_iff_not] at hh27
          conv => whnf
          refine ⟨fun hh39 => ?_, fun hh39 => ?_⟩
          · simp only [decide_eq_true_eq, decide_eq_false_iff_not] at hh39
            conv => whnf
            (exact ⟨⟨_, _, _, _, _, _, _, _, _, _, _, _, _, _, _⟩, _, sle_cfr rfl, rfl, by simp, by omega, by omega⟩)
          · simp only [decide_eq_true_eq, decide_eq_false_iff_not] at hh39
            conv => whnf
            refine ⟨fun hh41 => ?_, fun hh41 => ?_⟩
            · simp only [decide_eq_true_eq, decide_eq_false_iff_not] at hh41
              conv => whnf
              (exact ⟨⟨_, _, _, _, _, _, _, _, _, _, _, _, _, _, _⟩, _, sle_cfr rfl, rfl, by simp, by omega, by omega⟩)
            · simp only [decide_eq_true_eq, decide_eq_false_iff_not] at hh41
              conv => whnf
              refine ⟨fun hh43 => ?_, fun hh43 => ?_⟩
              · simp only [decide_eq_true_eq, decide_eq_false_iff_not] at hh43
                conv => whnf
                (exact ⟨⟨_, _, _, _, _, _, _, _, _, _, _, _, _, _, _⟩, _, sle_cfr rfl, rfl, by simp, by omega, by omega⟩)
              · simp only [decide_eq_true_eq, decide_eq_false_iff_not] at hh43
                conv => whnf
                refine ⟨fun hh45 => ?_, fun hh45 => ?_⟩
                · simp only [decide_eq_true_eq, decide_eq_false_iff_not] at hh45
                  conv => whnf
                  (exact ⟨⟨_, _, _, _, _, _, _, _, _, _, _, _, _, _, _⟩, _, sle_cfr rfl, rfl, by simp, by omega, by omega⟩)
                · simp only [decide_eq_true_eq, decide_eq_false_iff_not] at hh45
                  conv => whnf
                  refine ⟨fun hh47 => ?_, fun hh47 => ?_⟩
                  · simp only [decide_eq_true_eq, decide_eq_false_iff_not] at hh47
                    conv => whnf
                    (exact ⟨⟨_, _, _, _, _, _, _, _, _, _, _, _, _, _, _⟩, _, sle_cfr rfl, rfl, by simp, by omega, by omega⟩)
                  · simp only [decide_eq_true_eq, decide_eq_false_iff_not] at hh47
                    conv => whnf
                    refine ⟨fun hh49 => ?_, fun hh49 => ?_⟩
                    · simp only [decide_eq_true_eq, decide_eq_false_iff_not] at hh49
                      conv => whnf
                      (exact ⟨⟨_, _, _, _, _, _, _, _, _, _, _, _, _, _, _⟩, _, sle_cfr rfl, rfl, by simp, by omega, by omega⟩)
                    · simp only [decide_eq_true_eq, decide_eq_false_iff_not] at hh49
                      conv => whnf
                      refine ⟨fun hh51 => ?_, fun hh51 => ?_⟩
                      · simp only [decide_eq_true_eq, decide_eq_false_iff_not] at hh51
                        conv => whnf
                        (exact ⟨⟨_, _, _, _, _, _, _, _, _, _, _, _, _, _, _⟩, _, sle_cfr rfl, rfl, by simp, by omega, by omega⟩)
                      · simp only [decide_eq_true_eq, decide_eq_false_iff_not] at hh51
                        conv => whnf
                        refine ⟨fun hh53 => ?_, fun hh53 => ?_⟩
                        · simp only [decide_eq_true_eq, decide_eq_false_iff_not] at hh53
                          conv => whnf
                          (exact ⟨⟨_, _, _, _, _, _, _, _, _, _, _, _, _, _, _⟩, _, sle_cfr rfl, rfl, by simp, by omega, by omega⟩)
                        · simp only [decide_eq_true_eq, decide_eq_false_iff_not] at hh53
                          conv => whnf
                          refine ⟨fun hh55 => ?_, fun hh55 => ?_⟩
                          · simp only [decide_eq_true_eq, decide_eq_false_iff_not] at hh55
                            conv => whnf
                            (exact ⟨⟨_, _, _, _, _, _, _, _, _, _, _, _, _, _, _⟩, _, sle_cfn, rfl, by simp, by omega, by omega⟩)
                          · simp only [decide_eq_true_eq, decide_eq_false_iff_not] at hh55
                            conv => whnf
                            refine ⟨fun hh57 => ?_, fun hh57 => ?_⟩
                            · simp only [decide_eq_true_eq, decide_eq_false_iff_not] at hh57
                              conv => whnf
                              refine ⟨by simp, ?_⟩
                              conv => whnf
                              (exact ⟨⟨_, _, _, _, _, _, _, _, _, _, _, _, _, _, List.replicate 13 (0, 0)⟩, _, sle_cfr (by rfl), rfl, by simp, by omega, by omega⟩)
                            · simp only [decide_eq_true_eq, decide_eq_false_iff_not] at hh57
                              conv => whnf
                              refine ⟨by simp; omega, ?_⟩
                              conv => whnf
                              (exact ⟨⟨_, _, _, _, _, _, _, _, _, _, _, _, _, _, (spL.getD _ 0, 0) :: c.rs⟩, _, sle_cfr (by rfl), rfl, by simp, by omega, by omega⟩)
theorem spoil_s (ls : List Int) (a : Int) (c : Cf) (hc : c.rs.length ≤ 1000) (h0 : 0 ≤ a) (h1 : a < 9223372036854600000) :
    OSpec Try.prog 40 [.ptr 0 0, cfE c] [chs ls a] fun s ho => ∃ (c' : Cf) (a' : Int), s = cfE c' ∧ ho = [chs ls a'] ∧ c'.rs.length ≤ c.rs.length + 13 ∧ a ≤ a' ∧ a' ≤ a + 3 :=
  (spoil0_s ls a c hc h0 h1).weak fun s ho ⟨c', a', h1, h2, h3⟩ _ hfb => ⟨cfE c', ho, ⟨c', a', rfl, h2, h3⟩, h1, free_cf c', .refl _, hfb⟩
end Go.Proofs.Ytdommpfnoiemkaa

/- Chapter 27: drawn events with a field that may not be permitted. -/
namespace Go.Proofs.Ytdommpfnoiemkaa
open Go.Sx
set_option linter.unusedSimpArgs false
set_option linter.unusedVariables false
def xvL : List Int := [-1, 0, 1099511627776, 1099511627777, 14, 13]
theorem sle_evr {k a b c : Int} {s : List UInt8} {es : List (List SV)} {fl : List Bool} (q : SLe (.rs 1 es) (.rs 1 (fl.map blE))) : SLe (.agg [.int .i64 k, .int .i64 a, .int .i64 b, .int .i64 c, .str s, .rs 1 es]) (.agg (evE ⟨k, a, b, c, s, fl⟩)) :=
  .agg (.cons (.refl _) (.cons (.refl _) (.cons (.refl _) (.cons (.refl _) (.cons (.refl _) (.cons q .nil))))))
theorem sle_ffs (n : Nat) : SLe (.rs 1 (List.replicate n [.ff])) (.rs 1 ((List.replicate n false).map blE)) :=
  .rs (by simp) fun i e e' h h' => by
    rw [List.map_replicate] at h'
    rw [List.getElem?_replicate] at h h'
    split at h
    · rename_i q
      rw [if_pos q] at h'
      simp only [Option.some.injEq] at h h'
      subst h; subst h'
      exact .cons .ff .nil
    · cases h
theorem zero_bytes (n : Nat) : List.replicate n [SV.int .u8 0] = (List.replicate n (0 : UInt8)).map byteCell := by rw [List.map_replicate]; rfl
theorem event0_s (ls : List Int) (a : Int) (h0 : 0 ≤ a) (h1 : a < 9223372036854600000) :
    OSpec Try.prog 43 [.ptr 0 0] [chs ls a] fun s ho => ∃ (e : Ev) (a' : Int), SLe s (.agg (evE e)) ∧ ho = [chs ls a'] ∧ a ≤ a' ∧ a' ≤ a + 100 := by
  refine .of_code tab_ok Try.func43 (by rfl) rfl trivial ?_
  conv => whnf
  refine (gevents_w ls a 3 (by decide) (by omega) (by omega)).call [0, 2] (by rfl) (by repeat' (first | exact trivial | exact rfl | apply And.intro)) (by repeat' (first | exact trivial | exact rfl | apply And.intro)) ?_
  rintro _ _ ⟨l, b, rfl, rfl, k1, k2, k3, k4⟩
  have hm : (l.map evE).length = l.length := List.length_map ..
  have n0 := nxt_lo ls b ((l.map evE).length : Int)
  have n1 := nxt_hi ls b ((l.map evE).length : Int) (by omega)
  conv => whnf
  refine (next_s ls b ((l.map evE).length : Int) (by omega) (by omega) (by omega)).call [0] (by decide) (And.intro rfl trivial) (And.intro rfl trivial) ?_
  rintro _ _ ⟨rfl, rfl⟩
  obtain ⟨i, hi⟩ : ∃ i : Nat, nxt ls b ((l.map evE).length : Int) = (i : Int) := ⟨(nxt ls b ((l.map evE).length : Int)).toNat, by omega⟩
  rw [hi]
  conv => whnf
  refine ⟨by omega, ?_⟩
  conv => whnf
  refine ⟨_, ev_get (by omega), ?_⟩
  obtain ⟨e, he⟩ : ∃ e, e = l.getD i ev0 := ⟨_, rfl⟩
  rw [← he]
  conv => whnf
  have z0 := nxt_lo ls (b + 1 + 1 + 1) 3
  have z1 := nxt_hi ls (b + 1 + 1 + 1) 3 (by omega)
  have w1 : IntKind.i64.wrap (15 + nxt ls (b + 1 + 1 + 1) 3) = 15 + nxt ls (b + 1 + 1 + 1) 3 := w64 _ (by omega) (by omega)
  have w2 : IntKind.i64.wrap (254 + nxt ls (b + 1 + 1 + 1) 3) = 254 + nxt ls (b + 1 + 1 + 1) 3 := w64 _ (by omega) (by omega)
  conv => whnf
  refine (next_s _ _ _ (by first | omega | assumption | decide | simp) (by first | omega | assumption | decide | simp) (by first | omega | assumption | decide | simp)).call [0] (by decide) (And.intro rfl trivial) (And.intro rfl trivial) ?_
  rintro _ _ ⟨rfl, rfl⟩
  conv => whnf
  refine ⟨by (exact ⟨nxt_lo _ _ _, nxt_hi _ _ _ (by omega)⟩), ?_⟩
  conv => whnf
  (refine ⟨_, nums_get (l := xvL) (nxt_lo _ _ _) (nxt_hi _ _ _ (by omega)), ?_⟩)
  conv => whnf
  refine (next_s _ _ _ (by first | omega | assumption | decide | simp) (by first | omega | assumption | decide | simp) (by first | omega | assumption | decide | simp)).call [0] (by decide) (And.intro rfl trivial) (And.intro rfl trivial) ?_
  rintro _ _ ⟨rfl, rfl⟩
  conv => whnf
  refine ⟨fun hh21 => ?_, fun hh21 => ?_⟩
  · simp only [decide_eq_true_eq, decide_eq_false_iff_not] at hh21
    conv => whnf
    (exact ⟨⟨_, _, _, _, _, _⟩, _, sle_evr (.refl _), rfl, by omega, by omega⟩)
  · simp only [decide_eq_true_eq, decide_eq_false_iff_not] at hh21
    conv => whnf
    refine ⟨fun hh23 => ?_, fun hh23 => ?_⟩
    · simp only [decide_eq_true_eq, decide_eq_false_iff_not] at hh23
      conv => whnf
      (exact ⟨⟨_, _, _, _, _, _⟩, _, sle_evr (.refl _), rfl, by omega, by omega⟩)
    · simp only [decide_eq_true_eq, decide_eq_false_iff_not] at hh23
      conv => whnf
      refine ⟨fun hh25 => ?_, fun hh25 => ?_⟩
      · simp only [decide_eq_true_eq, decide_eq_false_iff_not] at hh25
        conv => whnf
        (exact ⟨⟨_, _, _, _, _, _⟩, _, sle_evr (.refl _), rfl, by omega, by omega⟩)
      · simp only [decide_eq_true_eq, decide_eq_false_iff_not] at hh25
        conv => whnf
        refine ⟨fun hh27 => ?_, fun hh27 => ?_⟩
        · simp only [decide_eq_true_eq, decide_eq_false_iff_not] at hh27
          conv => whnf
          (exact ⟨⟨_, _, _, _, _, _⟩, _, sle_evr (.refl _), rfl, by omega, by omega⟩)
        · simp only [decide_eq_true_eq, decide_eq_false_iff_not] at hh27
          conv => whnf
          refine ⟨fun hh29 => ?_, fun hh29 => ?_⟩
          · simp only [decide_eq_true_eq, decide_eq_false_iff_not] at hh29
            conv => whnf
            refine (next_s _ _ _ (by first | omega | assumption | decide | simp) (by first | omega | assumption | decide | simp) (by first | omega | assumption | decide | simp)).call [0] (by decide) (And.intro rfl trivial) (And.intro rfl trivial) ?_
            rintro _ _ ⟨rfl, rfl⟩
            conv => whnf
            refine ⟨by simp; omega, ?_⟩
            conv => whnf
            (exact ⟨⟨_, _, _, _, _, _⟩, _, sle_evr (sle_ffs _), rfl, by omega, by omega⟩)
          · simp only [decide_eq_true_eq, decide_eq_false_iff_not] at hh29
            conv => whnf
            refine ⟨fun hh41 => ?_, fun hh41 => ?_⟩
            · simp only [decide_eq_true_eq, decide_eq_false_iff_not] at hh41
              conv => whnf
              refine (next_s _ _ _ (by first | omega | assumption | decide | simp) (by first | omega | assumption | decide | simp) (by first | omega | assumption | decide | simp)).call [0] (by decide) (And.intro rfl trivial) (And.intro rfl trivial) ?_
              rintro _ _ ⟨rfl, rfl⟩
              conv => whnf
              refine ⟨by simp; omega, ?_⟩
              conv => whnf
              (refine ⟨_, zero_bytes _, ?_⟩)
              conv => whnf
              (exact ⟨⟨_, _, _, _, _, _⟩, _, sle_evr (.refl _), rfl, by omega, by omega⟩)
            · simp only [decide_eq_true_eq, decide_eq_false_iff_not] at hh41
              conv => whnf
              (exact ⟨⟨_, _, _, _, _, _⟩, _, sle_evr (.refl _), rfl, by omega, by omega⟩)
theorem eventX_s (ls : List Int) (a : Int) (h0 : 0 ≤ a) (h1 : a < 9223372036854600000) :
    OSpec Try.prog 43 [.ptr 0 0] [chs ls a] fun s ho => ∃ (e : Ev) (a' : Int), s = .agg (evE e) ∧ ho = [chs ls a'] ∧ a ≤ a' ∧ a' ≤ a + 100 :=
  (event0_s ls a h0 h1).weak fun s ho ⟨c', a', h1, h2, h3⟩ _ hfb => ⟨.agg (evE c'), ho, ⟨c', a', rfl, h2, h3⟩, h1, free_ev c', .refl _, hfb⟩
end Go.Proofs.Ytdommpfnoiemkaa

/- Chapter 27: which configurations and events are valid. -/
namespace Go.Proofs.Ytdommpfnoiemkaa
open Go.Sx
set_option linter.unusedSimpArgs false
set_option linter.unusedVariables false
theorem cfvX_s (ls : List Int) (a m : Int) (m0 : 1 ≤ m) (m1 : m ≤ 3) : PSpec Try.prog 44 [cfE (cfX ls a m)] (· = .bool true) := by
  have hc := cfX_ok ls a m m0 m1
  have hr : (cfX ls a m).rs.length ≤ 12 := (cfOk_of hc).1.2.2.2.2.2.2.2.2.2.2.2.2.2.2.2.2
  have h := cfv_s (cfX ls a m) (by omega)
  rw [hc] at h
  exact h
set_option maxRecDepth 100000 in
set_option maxHeartbeats 8000000 in
theorem scriptValid_s (ls : List Int) (x : Cf) (e : Ev) (hx : x.rs.length ≤ 9223372036854775807) : PSpec Try.prog 9 [.rs 1 (nums ls), cfE x, .agg (evE e)] TrueS := by
  refine .of_code' tab_ok Try.func9 (by rfl) rfl trivial ?_
  conv => whnf
  refine CallG.of_code tab_ok Try.func14 (by rfl) rfl ?_
  conv => whnf
  refine LoopG.inv tab_ok 66 (fun y : { y : Int × Nat // 0 ≤ y.1 ∧ y.1 ≤ 200 * (y.2 : Int) ∧ y.2 ≤ 8 } => [(4, .ptr 0 0), (5, .ptr 1 0), (7, .ptr 2 0), (8, .int .i64 (y.1.2 : Int))])
    (fun y => [.fix 71 (cfC x), .fix 74 (evE e), chs ls y.1.1]) (fun y => 8 - y.1.2) ⟨(0, 0), by simp⟩ (.of [some 0, some 1, some 2] (by rfl) ?_) ?_
  · conv => whnf
    refine ⟨by rfl, ?_⟩
    conv => whnf
    refine ⟨by rfl, ?_⟩
    conv => whnf
    refine ⟨by rfl, ?_⟩
    conv => whnf
    refine ⟨by rfl, ?_⟩
    conv => whnf
    refine ⟨by rfl, ?_⟩
    conv => whnf
    refine ⟨by rfl, ?_⟩
    conv => whnf
    refine ⟨by rfl, ?_⟩
    conv => whnf
    refine ⟨by rfl, ?_⟩
    conv => whnf
    refine ⟨by rfl, ?_⟩
    conv => whnf
    refine ⟨by rfl, ?_⟩
    conv => whnf
    refine ⟨by rfl, ?_⟩
    conv => whnf
    refine ⟨by rfl, ?_⟩
    conv => whnf
    refine ⟨by rfl, ?_⟩
    conv => whnf
    refine ⟨by rfl, ?_⟩
    conv => whnf
    refine ⟨by rfl, ?_⟩
    conv => whnf
    refine ⟨by rfl, ?_⟩
    conv => whnf
    refine ⟨by rfl, ?_⟩
    conv => whnf
    refine ⟨by rfl, ?_⟩
    conv => whnf
    refine ⟨by rfl, ?_⟩
    conv => whnf
    refine ⟨by rfl, ?_⟩
    conv => whnf
    refine ⟨by rfl, ?_⟩
    conv => whnf
    refine ⟨by rfl, ?_⟩
    conv => whnf
    refine ⟨by rfl, ?_⟩
    conv => whnf
    refine ⟨by rfl, ?_⟩
    conv => whnf
    exact trivial
  · intro y
    have hy := y.2
    conv => whnf
    refine ⟨fun hb => ?_, fun hb => ?_⟩
    · have hb : y.1.2 < 8 := by simp only [decide_eq_true_eq] at hb; omega
      have u0 := nxt_lo ls y.1.1 3
      have u1 := nxt_hi ls y.1.1 3 (by omega)
      have hc := cfX_ok ls (y.1.1 + 1) (1 + nxt ls y.1.1 3) (by omega) (by omega)
      have hA := cfA_rng ls (y.1.1 + 1)
      obtain ⟨d0, d1⟩ := cfOk_of hc
      have hr : (cfX ls (y.1.1 + 1) (1 + nxt ls y.1.1 3)).rs.length ≤ 12 := d0.2.2.2.2.2.2.2.2.2.2.2.2.2.2.2.2
      obtain ⟨c, ec⟩ : ∃ c, c = cfX ls (y.1.1 + 1) (1 + nxt ls y.1.1 3) := ⟨_, rfl⟩
      conv => whnf
      refine (gmode_s ls y.1.1 (by omega) (by omega)).call [2] (by decide) trivial (And.intro rfl trivial) ?_
      rintro _ _ ⟨rfl, rfl⟩
      conv => whnf
      refine (gcfg_s ls (y.1.1 + 1) _ (by omega) (by omega)).call [2] (by decide) (And.intro rfl trivial) (And.intro rfl trivial) ?_
      rintro _ _ ⟨rfl, rfl⟩
      rw [← ec] at hr ⊢
      conv => whnf
      refine (spoil_s ls _ c (by omega) (by omega) (by omega)).call [2] (by decide) (by repeat' (first | exact trivial | exact rfl | apply And.intro)) (And.intro rfl trivial) ?_
      rintro _ _ ⟨c', a2, rfl, rfl, r2, b0, b1⟩
      conv => whnf
      refine (eventX_s ls a2 (by omega) (by omega)).call [2] (by decide) (by repeat' (first | exact trivial | exact rfl | apply And.intro)) (And.intro rfl trivial) ?_
      rintro _ _ ⟨e', a3, rfl, rfl, b2, b3⟩
      have g0 := nxt_lo ls a3 3
      have g1 := nxt_hi ls a3 3 (by omega)
      have hc3 := cfX_ok ls (a3 + 1) (1 + nxt ls a3 3) (by omega) (by omega)
      have hA3 := cfA_rng ls (a3 + 1)
      conv => whnf
      refine DrawG.of mixed tab_ok ?_
      conv => whnf
      refine (cfv_s _ (by first | omega | assumption | decide | simp)).calld ?_
      conv => whnf
      refine (rcfv_s _ (by first | omega | assumption | decide | simp)).calld ?_
      conv => whnf
      refine both_f (by simp) ?_
      conv => whnf
      refine (evv_s _).calld ?_
      conv => whnf
      refine (revv_s _).calld ?_
      conv => whnf
      refine both_f (by simp) ?_
      conv => whnf
      refine (gmode_s _ _ (by first | omega | assumption | decide | simp) (by first | omega | assumption | decide | simp)).calld [2] (by decide) rfl trivial (And.intro rfl trivial) ?_
      conv => whnf
      refine (gcfg_s _ _ _ (by first | omega | assumption | decide | simp) (by first | omega | assumption | decide | simp)).calld [2] (by decide) rfl (And.intro rfl trivial) (And.intro rfl trivial) ?_
      conv => whnf
      refine (cfvX_s _ _ _ (by first | omega | assumption | decide | simp) (by first | omega | assumption | decide | simp)).calld ?_
      conv => whnf
      refine ⟨by kernel_rfl, ?_⟩
      conv => whnf
      refine both_f rfl ?_
      conv => whnf
      (refine ⟨⟨(cfA ls (a3 + 1), y.1.2 + 1), by show 0 ≤ cfA ls (a3 + 1) ∧ cfA ls (a3 + 1) ≤ 200 * ((y.1.2 + 1 : Nat) : Int) ∧ y.1.2 + 1 ≤ 8; omega⟩, by show 8 - (y.1.2 + 1) < 8 - y.1.2; omega, .of [some 0, some 1, some 2] (by rfl) ?_⟩)
      conv => whnf
      refine ⟨by exact (w64 _ (by omega) (by omega)).trans (by simp), ?_⟩
      conv => whnf
      refine ⟨by rfl, ?_⟩
      conv => whnf
      refine ⟨by rfl, ?_⟩
      conv => whnf
      refine ⟨by rfl, ?_⟩
      conv => whnf
      refine ⟨by rfl, ?_⟩
      conv => whnf
      refine ⟨by rfl, ?_⟩
      conv => whnf
      refine ⟨by rfl, ?_⟩
      conv => whnf
      refine ⟨by rfl, ?_⟩
      conv => whnf
      refine ⟨by rfl, ?_⟩
      conv => whnf
      refine ⟨by rfl, ?_⟩
      conv => whnf
      refine ⟨by rfl, ?_⟩
      conv => whnf
      refine ⟨by rfl, ?_⟩
      conv => whnf
      refine ⟨by rfl, ?_⟩
      conv => whnf
      refine ⟨by rfl, ?_⟩
      conv => whnf
      refine ⟨by rfl, ?_⟩
      conv => whnf
      refine ⟨by rfl, ?_⟩
      conv => whnf
      refine ⟨by rfl, ?_⟩
      conv => whnf
      refine ⟨by rfl, ?_⟩
      conv => whnf
      refine ⟨by rfl, ?_⟩
      conv => whnf
      refine ⟨by rfl, ?_⟩
      conv => whnf
      refine ⟨by rfl, ?_⟩
      conv => whnf
      refine ⟨by rfl, ?_⟩
      conv => whnf
      refine ⟨by rfl, ?_⟩
      conv => whnf
      refine ⟨by rfl, ?_⟩
      conv => whnf
      exact trivial
    · conv => whnf
      refine .same ?_
      conv => whnf
      refine DrawG.of mixed tab_ok ?_
      conv => whnf
      refine ⟨fun hh0 => ?_, fun hh0 => ?_⟩
      · simp only [decide_eq_true_eq, decide_eq_false_iff_not] at hh0
        conv => whnf
        refine (awake_s).calld ?_
        conv => whnf
        refine ⟨by kernel_rfl, ?_⟩
        conv => whnf
      · simp only [decide_eq_true_eq, decide_eq_false_iff_not] at hh0
        conv => whnf
        refine (cfv_s _ (by first | omega | assumption | decide | simp)).calld ?_
        conv => whnf
        refine (rcfv_s _ (by first | omega | assumption | decide | simp)).calld ?_
        conv => whnf
        refine both_t (by simp) ?_
        conv => whnf
        refine (evv_s _).calld ?_
        conv => whnf
        refine (revv_s _).calld ?_
        conv => whnf
        refine both_t (by simp) ?_
        conv => whnf
        refine (awake_s).calld ?_
        conv => whnf
        refine ⟨by kernel_rfl, ?_⟩
        conv => whnf
theorem scriptValidL (ls : List Int) (x : { c : Cf // c.rs.length ≤ 9223372036854775807 }) (e : Ev) : PSpec Try.prog 9 [.rs 1 (nums ls), cfE x.1, .agg (evE e)] TrueS := scriptValid_s ls x.1 e x.2
end Go.Proofs.Ytdommpfnoiemkaa

/- Chapter 27: the encoding of scripts. -/
namespace Go.Proofs.Ytdommpfnoiemkaa
open Go.Sx
set_option linter.unusedSimpArgs false
set_option linter.unusedVariables false
theorem encodes1_s (c : Cf) (l : List Ev) (e : Ev) (hc : c.rs.length ≤ 1000) (hl : l.length ≤ 1000) : PSpec Try.prog 50 [cfE c, .rs 6 (l.map evE ++ [evE e])] (· = .bool true) := by
  have h := encodes_s c (l ++ [e]) (by omega) (by simp; omega)
  rwa [List.map_append] at h
theorem encodes2_s (c : Cf) (e : Ev) (hc : c.rs.length ≤ 1000) : PSpec Try.prog 50 [cfE c, .rs 6 [evE e]] (· = .bool true) := encodes_s c [e] (by omega) (by simp)
theorem encodes3_s (c : Cf) (hc : c.rs.length ≤ 1000) : PSpec Try.prog 50 [cfE c, .nils] (· = .bool true) := (encodes_s c [] (by omega) (by simp)).preA (.cons (.refl _) (.cons .nil .nil))
theorem ex2 {P : Int × Nat → Prop} {Q : { x // P x } → Prop} (i : Nat) {b : Int} (c1 : P (b, i)) (h : Q ⟨(b, i), c1⟩) : ∃ x, Q x := ⟨_, h⟩
set_option maxRecDepth 100000 in
set_option maxHeartbeats 8000000 in
theorem scriptEncode_s (ls : List Int) (x : Cf) (e : Ev) (hx : x.rs.length ≤ 9223372036854775807) : PSpec Try.prog 10 [.rs 1 (nums ls), cfE x, .agg (evE e)] TrueS := by
  refine .of_code' tab_ok Try.func10 (by rfl) rfl trivial ?_
  have hxm : (x.rs.map rtE).length = x.rs.length := List.length_map ..
  conv => whnf
  refine CallG.of_code tab_ok Try.func14 (by rfl) rfl ?_
  conv => whnf
  refine LoopG.inv tab_ok 73 (fun y : { y : Int × Nat // 0 ≤ y.1 ∧ y.1 ≤ 400 * (y.2 : Int) ∧ y.2 ≤ 3 } => [(4, .ptr 0 0), (5, .ptr 1 0), (7, .ptr 2 0), (8, .int .i64 (y.1.2 : Int))])
    (fun y => [.fix 71 (cfC x), .fix 74 (evE e), chs ls y.1.1]) (fun y => 3 - y.1.2) ⟨(0, 0), by simp⟩ (.of [some 0, some 1, some 2] (by rfl) ?_) ?_
  · conv => whnf
    refine ⟨by rfl, ?_⟩
    conv => whnf
    refine ⟨by rfl, ?_⟩
    conv => whnf
    refine ⟨by rfl, ?_⟩
    conv => whnf
    refine ⟨by rfl, ?_⟩
    conv => whnf
    refine ⟨by rfl, ?_⟩
    conv => whnf
    refine ⟨by rfl, ?_⟩
    conv => whnf
    refine ⟨by rfl, ?_⟩
    conv => whnf
    refine ⟨by rfl, ?_⟩
    conv => whnf
    refine ⟨by rfl, ?_⟩
    conv => whnf
    refine ⟨by rfl, ?_⟩
    conv => whnf
    refine ⟨by rfl, ?_⟩
    conv => whnf
    refine ⟨by rfl, ?_⟩
    conv => whnf
    refine ⟨by rfl, ?_⟩
    conv => whnf
    refine ⟨by rfl, ?_⟩
    conv => whnf
    refine ⟨by rfl, ?_⟩
    conv => whnf
    refine ⟨by rfl, ?_⟩
    conv => whnf
    refine ⟨by rfl, ?_⟩
    conv => whnf
    refine ⟨by rfl, ?_⟩
    conv => whnf
    refine ⟨by rfl, ?_⟩
    conv => whnf
    refine ⟨by rfl, ?_⟩
    conv => whnf
    refine ⟨by rfl, ?_⟩
    conv => whnf
    refine ⟨by rfl, ?_⟩
    conv => whnf
    refine ⟨by rfl, ?_⟩
    conv => whnf
    refine ⟨by rfl, ?_⟩
    conv => whnf
    exact trivial
  · intro y
    have hy := y.2
    conv => whnf
    refine ⟨fun hb => ?_, fun hb => ?_⟩
    · have hb : y.1.2 < 3 := by simp only [decide_eq_true_eq] at hb; omega
      have u0 := nxt_lo ls y.1.1 3
      have u1 := nxt_hi ls y.1.1 3 (by omega)
      have hc := cfX_ok ls (y.1.1 + 1) (1 + nxt ls y.1.1 3) (by omega) (by omega)
      have hA := cfA_rng ls (y.1.1 + 1)
      have hr : (cfX ls (y.1.1 + 1) (1 + nxt ls y.1.1 3)).rs.length ≤ 12 := (cfOk_of hc).1.2.2.2.2.2.2.2.2.2.2.2.2.2.2.2.2
      obtain ⟨c, ec⟩ : ∃ c, c = cfX ls (y.1.1 + 1) (1 + nxt ls y.1.1 3) := ⟨_, rfl⟩
      obtain ⟨a, ea⟩ : ∃ a, a = cfA ls (y.1.1 + 1) := ⟨_, rfl⟩
      rw [← ec] at hr
      rw [← ea] at hA
      conv => whnf
      refine (gmode_s ls y.1.1 (by omega) (by omega)).call [2] (by decide) trivial (And.intro rfl trivial) ?_
      rintro _ _ ⟨rfl, rfl⟩
      conv => whnf
      refine (gcfg_s ls (y.1.1 + 1) _ (by omega) (by omega)).call [2] (by decide) (And.intro rfl trivial) (And.intro rfl trivial) ?_
      rintro _ _ ⟨rfl, rfl⟩
      rw [← ec, ← ea]
      conv => whnf
      refine (next_s ls a 3 (by omega) (by omega) (by omega)).call [2] (by decide) (And.intro rfl trivial) (And.intro rfl trivial) ?_
      rintro _ _ ⟨rfl, rfl⟩
      conv => whnf
      refine ⟨fun hs => ?_, fun hs => ?_⟩
      · conv => whnf
        refine (spoil_s ls _ c (by omega) (by omega) (by omega)).call [2] (by decide) (by repeat' (first | exact trivial | exact rfl | apply And.intro)) (And.intro rfl trivial) ?_
        rintro _ _ ⟨c', a2, rfl, rfl, r2, b0, b1⟩
        have v0 := nxt_lo ls a2 6
        have v1 := nxt_hi ls a2 6 (by omega)
        obtain ⟨n, hn⟩ : ∃ n : Nat, nxt ls a2 6 = (n : Int) := ⟨(nxt ls a2 6).toNat, by omega⟩
        conv => whnf
        refine (next_s ls a2 6 (by omega) (by omega) (by omega)).call [2] (by decide) (And.intro rfl trivial) (And.intro rfl trivial) ?_
        rintro _ _ ⟨rfl, rfl⟩
        rw [hn]
        conv => whnf
        refine (gevents_w ls (a2 + 1) n (by omega) (by omega) (by omega)).call [2, 4] (by rfl) (by repeat' (first | exact trivial | exact rfl | apply And.intro)) (by repeat' (first | exact trivial | exact rfl | apply And.intro)) ?_
        rintro _ _ ⟨l, b, rfl, rfl, k1, k2, k3, k4⟩
        have hm : (l.map evE).length = l.length := List.length_map ..
        conv => whnf
        refine (next_s _ _ _ (by first | omega | assumption | decide | simp) (by first | omega | assumption | decide | simp) (by first | omega | assumption | decide | simp)).call [2] (by decide) (And.intro rfl trivial) (And.intro rfl trivial) ?_
        rintro _ _ ⟨rfl, rfl⟩
        conv => whnf
        refine ⟨fun hh10 => ?_, fun hh10 => ?_⟩
        · simp only [decide_eq_true_eq, decide_eq_false_iff_not] at hh10
          conv => whnf
          refine (eventX_s _ _ (by first | omega | assumption | decide | simp) (by first | omega | assumption | decide | simp)).call [2] (by decide) trivial (And.intro rfl trivial) ?_
          rintro _ _ ⟨u11, u12, rfl, rfl, g13, g14⟩
          conv => whnf
          refine ⟨by simp; omega, ?_⟩
          conv => whnf
          refine (encodes1_s _ _ _ (by first | omega | assumption | decide | simp) (by first | omega | assumption | decide | simp)).lend (And.intro rfl (And.intro rfl trivial)) ?_
          rintro _ rfl
          conv => whnf
          refine both_f rfl ?_
          conv => whnf
          refine ⟨fun hh31 => ?_, fun hh31 => ?_⟩
          · simp only [decide_eq_true_eq, decide_eq_false_iff_not] at hh31
            conv => whnf
            refine ⟨fun hh32 => ?_, fun hh32 => ?_⟩
            · simp only [decide_eq_true_eq, decide_eq_false_iff_not] at hh32
              conv => whnf
              refine (encodes2_s _ _ (by first | omega | assumption | decide | simp)).lend (And.intro rfl (And.intro rfl trivial)) ?_
              rintro _ rfl
              conv => whnf
              refine both_f rfl ?_
              conv => whnf
              (dsimp only; refine' ex2 (y.1.2 + 1) ?c1 ⟨?c2, .of [some 0, some 1, some 2] (by rfl) ?c3⟩; (case c3 => ((conv => whnf); (repeat (first | exact trivial | (refine ⟨rfl, ?_⟩; (conv => whnf)) | (refine ⟨(w64 _ (by omega) (by omega)).trans (by simp), ?_⟩; (conv => whnf)))))); (case c1 => (refine ⟨?_, ?_, ?_⟩ <;> dsimp only <;> omega)); (case c2 => (show 3 - (y.1.2 + 1) < 3 - y.1.2; omega)))
            · simp only [decide_eq_true_eq, decide_eq_false_iff_not] at hh32
              conv => whnf
              (dsimp only; refine' ex2 (y.1.2 + 1) ?c1 ⟨?c2, .of [some 0, some 1, some 2] (by rfl) ?c3⟩; (case c3 => ((conv => whnf); (repeat (first | exact trivial | (refine ⟨rfl, ?_⟩; (conv => whnf)) | (refine ⟨(w64 _ (by omega) (by omega)).trans (by simp), ?_⟩; (conv => whnf)))))); (case c1 => (refine ⟨?_, ?_, ?_⟩ <;> dsimp only <;> omega)); (case c2 => (show 3 - (y.1.2 + 1) < 3 - y.1.2; omega)))
          · simp only [decide_eq_true_eq, decide_eq_false_iff_not] at hh31
            conv => whnf
            (dsimp only; refine' ex2 (y.1.2 + 1) ?c1 ⟨?c2, .of [some 0, some 1, some 2] (by rfl) ?c3⟩; (case c3 => ((conv => whnf); (repeat (first | exact trivial | (refine ⟨rfl, ?_⟩; (conv => whnf)) | (refine ⟨(w64 _ (by omega) (by omega)).trans (by simp), ?_⟩; (conv => whnf)))))); (case c1 => (refine ⟨?_, ?_, ?_⟩ <;> dsimp only <;> omega)); (case c2 => (show 3 - (y.1.2 + 1) < 3 - y.1.2; omega)))
        · simp only [decide_eq_true_eq, decide_eq_false_iff_not] at hh10
          conv => whnf
          refine (encodes_s _ _ (by first | omega | assumption | decide | simp) (by first | omega | assumption | decide | simp)).lend (And.intro rfl (And.intro rfl trivial)) ?_
          rintro _ rfl
          conv => whnf
          refine both_f rfl ?_
          conv => whnf
          refine ⟨fun hh56 => ?_, fun hh56 => ?_⟩
          · simp only [decide_eq_true_eq, decide_eq_false_iff_not] at hh56
            conv => whnf
            refine ⟨fun hh57 => ?_, fun hh57 => ?_⟩
            · simp only [decide_eq_true_eq, decide_eq_false_iff_not] at hh57
              conv => whnf
              refine (encodes2_s _ _ (by first | omega | assumption | decide | simp)).lend (And.intro rfl (And.intro rfl trivial)) ?_
              rintro _ rfl
              conv => whnf
              refine both_f rfl ?_
              conv => whnf
              (dsimp only; refine' ex2 (y.1.2 + 1) ?c1 ⟨?c2, .of [some 0, some 1, some 2] (by rfl) ?c3⟩; (case c3 => ((conv => whnf); (repeat (first | exact trivial | (refine ⟨rfl, ?_⟩; (conv => whnf)) | (refine ⟨(w64 _ (by omega) (by omega)).trans (by simp), ?_⟩; (conv => whnf)))))); (case c1 => (refine ⟨?_, ?_, ?_⟩ <;> dsimp only <;> omega)); (case c2 => (show 3 - (y.1.2 + 1) < 3 - y.1.2; omega)))
            · simp only [decide_eq_true_eq, decide_eq_false_iff_not] at hh57
              conv => whnf
              (dsimp only; refine' ex2 (y.1.2 + 1) ?c1 ⟨?c2, .of [some 0, some 1, some 2] (by rfl) ?c3⟩; (case c3 => ((conv => whnf); (repeat (first | exact trivial | (refine ⟨rfl, ?_⟩; (conv => whnf)) | (refine ⟨(w64 _ (by omega) (by omega)).trans (by simp), ?_⟩; (conv => whnf)))))); (case c1 => (refine ⟨?_, ?_, ?_⟩ <;> dsimp only <;> omega)); (case c2 => (show 3 - (y.1.2 + 1) < 3 - y.1.2; omega)))
          · simp only [decide_eq_true_eq, decide_eq_false_iff_not] at hh56
            conv => whnf
            (dsimp only; refine' ex2 (y.1.2 + 1) ?c1 ⟨?c2, .of [some 0, some 1, some 2] (by rfl) ?c3⟩; (case c3 => ((conv => whnf); (repeat (first | exact trivial | (refine ⟨rfl, ?_⟩; (conv => whnf)) | (refine ⟨(w64 _ (by omega) (by omega)).trans (by simp), ?_⟩; (conv => whnf)))))); (case c1 => (refine ⟨?_, ?_, ?_⟩ <;> dsimp only <;> omega)); (case c2 => (show 3 - (y.1.2 + 1) < 3 - y.1.2; omega)))
      · conv => whnf
        have v0 := nxt_lo ls (a + 1) 6
        have v1 := nxt_hi ls (a + 1) 6 (by omega)
        obtain ⟨n, hn⟩ : ∃ n : Nat, nxt ls (a + 1) 6 = (n : Int) := ⟨(nxt ls (a + 1) 6).toNat, by omega⟩
        conv => whnf
        refine (next_s ls (a + 1) 6 (by omega) (by omega) (by omega)).call [2] (by decide) (And.intro rfl trivial) (And.intro rfl trivial) ?_
        rintro _ _ ⟨rfl, rfl⟩
        rw [hn]
        conv => whnf
        refine (gevents_w ls ((a + 1) + 1) n (by omega) (by omega) (by omega)).call [2, 4] (by rfl) (by repeat' (first | exact trivial | exact rfl | apply And.intro)) (by repeat' (first | exact trivial | exact rfl | apply And.intro)) ?_
        rintro _ _ ⟨l, b, rfl, rfl, k1, k2, k3, k4⟩
        have hm : (l.map evE).length = l.length := List.length_map ..
        conv => whnf
        refine (next_s _ _ _ (by first | omega | assumption | decide | simp) (by first | omega | assumption | decide | simp) (by first | omega | assumption | decide | simp)).call [2] (by decide) (And.intro rfl trivial) (And.intro rfl trivial) ?_
        rintro _ _ ⟨rfl, rfl⟩
        conv => whnf
        refine ⟨fun hh10 => ?_, fun hh10 => ?_⟩
        · simp only [decide_eq_true_eq, decide_eq_false_iff_not] at hh10
          conv => whnf
          refine (eventX_s _ _ (by first | omega | assumption | decide | simp) (by first | omega | assumption | decide | simp)).call [2] (by decide) trivial (And.intro rfl trivial) ?_
          rintro _ _ ⟨u11, u12, rfl, rfl, g13, g14⟩
          conv => whnf
          refine ⟨by simp; omega, ?_⟩
          conv => whnf
          refine (encodes1_s _ _ _ (by first | omega | assumption | decide | simp) (by first | omega | assumption | decide | simp)).lend (And.intro rfl (And.intro rfl trivial)) ?_
          rintro _ rfl
          conv => whnf
          refine both_f rfl ?_
          conv => whnf
          refine ⟨fun hh31 => ?_, fun hh31 => ?_⟩
          · simp only [decide_eq_true_eq, decide_eq_false_iff_not] at hh31
            conv => whnf
            refine ⟨fun hh32 => ?_, fun hh32 => ?_⟩
            · simp only [decide_eq_true_eq, decide_eq_false_iff_not] at hh32
              conv => whnf
              refine (encodes2_s _ _ (by first | omega | assumption | decide | simp)).lend (And.intro rfl (And.intro rfl trivial)) ?_
              rintro _ rfl
              conv => whnf
              refine both_f rfl ?_
              conv => whnf
              (dsimp only; refine' ex2 (y.1.2 + 1) ?c1 ⟨?c2, .of [some 0, some 1, some 2] (by rfl) ?c3⟩; (case c3 => ((conv => whnf); (repeat (first | exact trivial | (refine ⟨rfl, ?_⟩; (conv => whnf)) | (refine ⟨(w64 _ (by omega) (by omega)).trans (by simp), ?_⟩; (conv => whnf)))))); (case c1 => (refine ⟨?_, ?_, ?_⟩ <;> dsimp only <;> omega)); (case c2 => (show 3 - (y.1.2 + 1) < 3 - y.1.2; omega)))
            · simp only [decide_eq_true_eq, decide_eq_false_iff_not] at hh32
              conv => whnf
              (dsimp only; refine' ex2 (y.1.2 + 1) ?c1 ⟨?c2, .of [some 0, some 1, some 2] (by rfl) ?c3⟩; (case c3 => ((conv => whnf); (repeat (first | exact trivial | (refine ⟨rfl, ?_⟩; (conv => whnf)) | (refine ⟨(w64 _ (by omega) (by omega)).trans (by simp), ?_⟩; (conv => whnf)))))); (case c1 => (refine ⟨?_, ?_, ?_⟩ <;> dsimp only <;> omega)); (case c2 => (show 3 - (y.1.2 + 1) < 3 - y.1.2; omega)))
          · simp only [decide_eq_true_eq, decide_eq_false_iff_not] at hh31
            conv => whnf
            (dsimp only; refine' ex2 (y.1.2 + 1) ?c1 ⟨?c2, .of [some 0, some 1, some 2] (by rfl) ?c3⟩; (case c3 => ((conv => whnf); (repeat (first | exact trivial | (refine ⟨rfl, ?_⟩; (conv => whnf)) | (refine ⟨(w64 _ (by omega) (by omega)).trans (by simp), ?_⟩; (conv => whnf)))))); (case c1 => (refine ⟨?_, ?_, ?_⟩ <;> dsimp only <;> omega)); (case c2 => (show 3 - (y.1.2 + 1) < 3 - y.1.2; omega)))
        · simp only [decide_eq_true_eq, decide_eq_false_iff_not] at hh10
          conv => whnf
          refine (encodes_s _ _ (by first | omega | assumption | decide | simp) (by first | omega | assumption | decide | simp)).lend (And.intro rfl (And.intro rfl trivial)) ?_
          rintro _ rfl
          conv => whnf
          refine both_f rfl ?_
          conv => whnf
          refine ⟨fun hh56 => ?_, fun hh56 => ?_⟩
          · simp only [decide_eq_true_eq, decide_eq_false_iff_not] at hh56
            conv => whnf
            refine ⟨fun hh57 => ?_, fun hh57 => ?_⟩
            · simp only [decide_eq_true_eq, decide_eq_false_iff_not] at hh57
              conv => whnf
              refine (encodes2_s _ _ (by first | omega | assumption | decide | simp)).lend (And.intro rfl (And.intro rfl trivial)) ?_
              rintro _ rfl
              conv => whnf
              refine both_f rfl ?_
              conv => whnf
              (dsimp only; refine' ex2 (y.1.2 + 1) ?c1 ⟨?c2, .of [some 0, some 1, some 2] (by rfl) ?c3⟩; (case c3 => ((conv => whnf); (repeat (first | exact trivial | (refine ⟨rfl, ?_⟩; (conv => whnf)) | (refine ⟨(w64 _ (by omega) (by omega)).trans (by simp), ?_⟩; (conv => whnf)))))); (case c1 => (refine ⟨?_, ?_, ?_⟩ <;> dsimp only <;> omega)); (case c2 => (show 3 - (y.1.2 + 1) < 3 - y.1.2; omega)))
            · simp only [decide_eq_true_eq, decide_eq_false_iff_not] at hh57
              conv => whnf
              (dsimp only; refine' ex2 (y.1.2 + 1) ?c1 ⟨?c2, .of [some 0, some 1, some 2] (by rfl) ?c3⟩; (case c3 => ((conv => whnf); (repeat (first | exact trivial | (refine ⟨rfl, ?_⟩; (conv => whnf)) | (refine ⟨(w64 _ (by omega) (by omega)).trans (by simp), ?_⟩; (conv => whnf)))))); (case c1 => (refine ⟨?_, ?_, ?_⟩ <;> dsimp only <;> omega)); (case c2 => (show 3 - (y.1.2 + 1) < 3 - y.1.2; omega)))
          · simp only [decide_eq_true_eq, decide_eq_false_iff_not] at hh56
            conv => whnf
            (dsimp only; refine' ex2 (y.1.2 + 1) ?c1 ⟨?c2, .of [some 0, some 1, some 2] (by rfl) ?c3⟩; (case c3 => ((conv => whnf); (repeat (first | exact trivial | (refine ⟨rfl, ?_⟩; (conv => whnf)) | (refine ⟨(w64 _ (by omega) (by omega)).trans (by simp), ?_⟩; (conv => whnf)))))); (case c1 => (refine ⟨?_, ?_, ?_⟩ <;> dsimp only <;> omega)); (case c2 => (show 3 - (y.1.2 + 1) < 3 - y.1.2; omega)))
    · conv => whnf
      refine .same ?_
      conv => whnf
      refine ⟨fun hh0 => ?_, fun hh0 => ?_⟩
      · simp only [decide_eq_true_eq, decide_eq_false_iff_not] at hh0
        conv => whnf
        refine (awake_s).call ?_
        rintro _ rfl
        conv => whnf
      · simp only [decide_eq_true_eq, decide_eq_false_iff_not] at hh0
        conv => whnf
        refine (encodes3_s _ (by first | omega | assumption | decide | simp)).call ?_
        rintro _ rfl
        conv => whnf
        refine both_t rfl ?_
        conv => whnf
        refine (awake_s).call ?_
        rintro _ rfl
        conv => whnf
theorem scriptEncodeL (ls : List Int) (x : { c : Cf // c.rs.length ≤ 9223372036854775807 }) (e : Ev) : PSpec Try.prog 10 [.rs 1 (nums ls), cfE x.1, .agg (evE e)] TrueS := scriptEncode_s ls x.1 e x.2
end Go.Proofs.Ytdommpfnoiemkaa

/- A drawn region behind which the length of a slice is still known that has been given up in it. No statement of the seat is proved here. -/
namespace Go.Sx
set_option linter.unusedVariables false
section
variable {P : Program} {T : Tab} {ops : Array Oper}
theorem DrawG.any (hm : P.follows .mixedOrders = true) (hT : TabOK P T) {m : Nat} {F : Fr} {h : Hp} {K : Fr → Hp → Prop} (hk : drawK P T ops F h K) (w : World) (X : Nat → Prop) (σ : Sg) (tmps : Array Value) (hI : Inv w X σ h) (hF : FRep w (Ex X σ) σ F tmps) :
    wpAny P .any ops (SPost m X w σ fun x F h => x = .normal ∧ K F h) ops.size (Array.replicate ops.size false) ⟨tmps, []⟩ { w with drawn := w.drawn + 1 } := by
  obtain ⟨ids, h', hk, hres⟩ := resvK_sound ops.toList hk
  obtain ⟨rs, F', h'', hk, hrun⟩ := dopsK_sound hT ops.toList hk
  obtain ⟨hind, hk⟩ := marksK_sound hk
  obtain ⟨hp, e1, e2⟩ := hrun.plan hind
  subst e1; subst e2
  obtain ⟨σ1, hI1, hS1⟩ := hres w X σ hI
  have hF1 := hF.step hS1 (Nat.le_refl _)
  have hS2 : Step σ1.length w σ1 { w with drawn := w.drawn + 1 } σ1 := ⟨rfl, rfl, rfl, Nat.le_refl _, fun _ _ _ => rfl, fun _ h _ => h, fun _ _ _ h _ => .inl h⟩
  have hF2 := hF1.step hS2 (Nat.le_refl _)
  have hI2 : Inv { w with drawn := w.drawn + 1 } X σ1 h' := hI1.heap rfl
  have hL0 : ∀ k, FL ops.toList rs F (listedB (Array.replicate ops.size false)) k = F := by
    intro k
    induction k with
    | zero => rfl
    | succ k ih =>
      simp only [FL]
      rw [if_neg, ih]
      simp only [listedB, Array.getD_eq_getD_getElem?, Array.getElem?_replicate]
      split <;> simp
  have hH0 : ∀ k, HL rs h' (listedB (Array.replicate ops.size false)) k = h' := by
    intro k
    induction k with
    | zero => rfl
    | succ k ih =>
      simp only [HL]
      rw [if_neg, ih]
      simp only [listedB, Array.getD_eq_getD_getElem?, Array.getElem?_replicate]
      split <;> simp
  have hbf : ∀ i, listedB (Array.replicate ops.size false) i = false := fun i => by
    simp only [listedB, Array.getD_eq_getD_getElem?, Array.getElem?_replicate]
    split <;> simp
  refine draw_sound hp hk ops.size _ (List.range ops.size) ⟨tmps, []⟩ _ σ1 (by simp) (fun i o _ hi => by rw [hbf] at hi; simp at hi) (by simp) (fun i hi _ => List.mem_range.2 hi) rfl ?_ ?_ (hS1.any.trans hS2.any)
  · rw [hH0]; exact hI2
  · rw [hL0]; exact hF2
theorem put_keep {a : Act} {d : Option Tmp} {v : Value} {i : Nat} (h : d ≠ some i) : (a.put d v).tmps[i]? = a.tmps[i]? := by
  cases d with
  | none => rfl
  | some d =>
    have hd : d ≠ i := fun e => h (by rw [e])
    simp only [Act.put]
    rw [Array.getElem?_setIfInBounds]
    rw [if_neg hd]
theorem wpAny_keep {Q Q' : Exit → Act → World → Prop} {md : Region.Mode} {i : Nat} {u : Option Value} (hd : ∀ o ∈ ops, o.dst ≠ some i) (hQ : ∀ e a w, Q e a w → e = .normal ∨ (∃ k, e = .exit k) ∨ e = .ret) (hQ' : ∀ e a w, Q e a w → a.tmps[i]? = u → Q' e a w) :
    ∀ (fuel : Nat) (listed : Array Bool) (a : Act) (w : World), a.tmps[i]? = u → wpAny P md ops Q fuel listed a w → wpAny P md ops Q' fuel listed a w := by
  have hno : ¬ LetsOut Q := fun ⟨a, w, h⟩ => by rcases hQ _ _ _ h with e | ⟨_, e⟩ | e <;> cases e
  have hnp : ∀ c a w, ¬ Q (.panic c) a w := fun c a w h => by rcases hQ _ _ _ h with e | ⟨_, e⟩ | e <;> cases e
  intro fuel
  induction fuel with
  | zero => intro listed a w ha h; exact ⟨h.1, hQ' _ _ _ h.2 ha⟩
  | succ fuel ih =>
    intro listed a w ha h
    refine ⟨fun h0 => hQ' _ _ _ (h.1 h0) ha, fun j hj => ?_⟩
    have hw := h.2 j hj
    unfold wpOp at hw ⊢
    split at hw
    · exact ih _ _ _ ha hw
    · rename_i o ho
      have hdo : o.dst ≠ some i := hd o (Array.mem_of_getElem? ho)
      split at hw
      · rename_i hwa
        rw [if_pos hwa]
        rcases hw with hw | hw
        · left
          unfold Oper.wp at hw ⊢
          generalize (execOp a.eval o).run P w = r at hw
          cases r with
          | ok n w' =>
            cases n with
            | value v => exact ih _ _ _ ((put_keep hdo).trans ha) hw
            | skip => exact ih _ _ _ ((put_keep hdo).trans ha) hw
            | defer d => exact ih _ _ _ ((put_keep hdo).trans ha) hw
            | enter f args =>
              refine Calls.mono hw (fun e w'' he => ?_)
              cases e with
              | returned v => exact ih _ _ _ ((put_keep hdo).trans ha) he
              | panicked c => exact (hnp _ _ _ he).elim
              | outgrown => exact (hno he).elim
            | row r args => exact Rows.mono hw (fun v w'' he => ih _ _ _ ((put_keep hdo).trans ha) he)
            | _ => exact hw.elim
          | halt x w' => cases x <;> first | exact hw.elim | exact (hnp _ _ _ hw).elim
        · exact (hno hw.2).elim
      · rename_i hwa
        rw [if_neg hwa]
        exact ih _ _ _ ((put_keep hdo).trans ha) hw
noncomputable def drawLnK (P : Program) (T : Tab) (ops : Array Oper) (i n : Nat) (F : Fr) (h : Hp) (K : Fr → Hp → Prop) : Prop :=
  nthK F i fun s => match s with
    | .sl b => nthK h b fun blk => match blk with
      | .row _ _ es => es.length = n ∧ drawK P T ops F h fun F' h' => setK F' i (.ln n) fun F'' => K F'' h'
      | _ => False
    | _ => False
/-- A DRAWN REGION behind which slot i is a slice of n elements, whatever became of them. -/
theorem DrawG.ln (hm : P.follows .mixedOrders = true) (hT : TabOK P T) {m id : Nat} {F : Fr} {h : Hp} {K : Fr → Hp → Prop} (i n : Nat) (hd : ops.all (fun o => o.dst != some i) = true) (hk : drawLnK P T ops i n F h K) : DrawG P m id ops F h K := by
  obtain ⟨s, hs, hk⟩ := nthK_sound hk
  cases s with
  | sl b =>
    obtain ⟨blk, hb, hk⟩ := nthK_sound (show nthK h b _ from hk)
    cases blk with
    | row t z es =>
      obtain ⟨hn, hk⟩ := hk
      refine ⟨fun w X σ tmps hI hF => wp_region_any hm ?_⟩
      have hi : i < tmps.size := by rw [← hF.1]; exact (List.getElem?_eq_some_iff.1 hs).1
      have hv : tmps[i]? = some tmps[i] := Array.getElem?_eq_getElem hi
      have hval : ∃ (a : Option Addr) (c : Nat), tmps[i] = .slice a n c := by
        have hr := hF.2 i _ _ hs hv
        rcases row_of hI hb with ⟨g, cap, vs, hσ, _⟩ | ⟨hσ, hes⟩
        · generalize tmps[i] = v at hr
          cases hr with
          | sl h' => rw [hσ] at h'; simp at h'; obtain ⟨rfl, rfl, rfl, rfl⟩ := h'; exact ⟨_, _, by rw [hn]⟩
          | slN h' => rw [hσ] at h'; simp at h'
          | slD h' => rw [hσ] at h'; simp at h'
        · generalize tmps[i] = v at hr
          cases hr with
          | sl h' => rw [hσ] at h'; simp at h'
          | slN h' => subst hes; subst hn; exact ⟨_, _, rfl⟩
          | slD h' => rw [hσ] at h'; simp at h'
      refine wpAny_keep (md := .any) (i := i) (u := some tmps[i]) (fun o ho e => ?_) (fun e a w' hq => ?_) (fun e a w' hq hk2 => ?_) _ _ _ _ hv (DrawG.any (m := m) hm hT hk w X σ tmps hI hF)
      · have h2 := Array.all_eq_true_iff_forall_mem.1 hd o ho
        simp [e] at h2
      · obtain ⟨_, x, _, _, _, hx, _⟩ := hq
        cases e <;> simp [SX.of] at hx ⊢
      obtain ⟨hd', x, F', h', σ', hx, ⟨hn', hk⟩, hI', hF', hS⟩ := hq
      obtain ⟨hlt, hk⟩ := setK_sound hk
      refine ⟨hd', x, _, h', σ', hx, ⟨hn', hk⟩, hI', ⟨by rw [List.length_set]; exact hF'.1, fun j s v hj hvj => ?_⟩, hS⟩
      rw [List.getElem?_set] at hj
      by_cases hij : i = j
      · subst hij
        rw [if_pos rfl, if_pos hlt] at hj
        simp only [Option.some.injEq] at hj
        subst hj
        rw [hk2] at hvj
        simp only [Option.some.injEq] at hvj
        subst hvj
        obtain ⟨ad, c, e⟩ := hval
        rw [e]
        exact .ln
      · rw [if_neg hij] at hj
        exact hF'.2 j s v hj hvj
    | _ => exact hk.elim
  | _ => exact hk.elim
end
end Go.Sx

/- Chapter 27: full scripts. -/
namespace Go.Proofs.Ytdommpfnoiemkaa
open Go.Sx
set_option linter.unusedSimpArgs false
set_option linter.unusedVariables false
abbrev zrE : List SV := [.int .i64 0, .int .i64 0, .int .i64 0, .int .i64 0, .str [], .nils]
abbrev flE (n : Int) : List SV := [.int .i64 10, .int .i64 n, .int .i64 0, .int .i64 0, .str [], .nils]
theorem free_nils : FreeSV .nils := fun w E σ σ' v h => by cases h; exact .nils
theorem gcfgN_s :
    OSpec Try.prog 41 [.ptr 0 0, .int .i64 1] [.fix 93 [.nils, .int .i64 0]] fun s ho => ∃ c : Cf, s = .agg (cfC c) ∧ ho = [chs [] (cfA [] 0)] ∧ cfOk c = true :=
  ((gcfg_s [] 0 1 (by omega) (by omega)).pre (.one (.fix (.cons .nil (.cons (.refl _) .nil)))) (fun b hb => by
    simp at hb; subst hb
    intro x hx
    simp at hx
    rcases hx with rfl | rfl
    · exact free_nils
    · exact free_int0 _ _)).mono fun s ho h => ⟨_, h.1, h.2, cfX_ok _ _ _ (by omega) (by omega)⟩
def flR (n : Int) (i : Nat) : List (List SV) := List.replicate i (flE n) ++ List.replicate (4096 - i) zrE
def flV (n : Int) : Ev := ⟨10, n, 0, 0, [], []⟩
theorem flR_len (n : Int) {i : Nat} (h : i ≤ 4096) : (flR n i).length = 4096 := by
  unfold flR; rw [List.length_append, List.length_replicate, List.length_replicate]; omega
theorem flR_set (n : Int) {i : Nat} (h : i < 4096) : (flR n i).set i (flE n) = flR n (i + 1) := by
  unfold flR
  rw [List.set_append_right _ _ (by rw [List.length_replicate]; omega), List.length_replicate, Nat.sub_self, show 4096 - i = (4096 - (i + 1)) + 1 from by omega, List.replicate_succ, List.set_cons_zero, List.replicate_succ' (n := i), List.append_assoc]
  rfl
theorem flR_0 (n : Int) : List.replicate (Int.toNat 4096) zrE = flR n 0 := by
  unfold flR; rw [List.replicate_zero, List.nil_append]; rfl
theorem sle_fl (n : Int) {k : Nat} {es : List (List SV)} (h : es = List.replicate k (flE n)) : SLe (.rs 6 es) (.rs 6 ((List.replicate k (flV n)).map evE)) := by
  subst h
  rw [List.map_replicate]
  refine .rs (by simp) fun i e e' h h' => ?_
  rw [List.getElem?_replicate] at h h'
  split at h
  · rename_i q
    rw [if_pos q] at h'
    simp only [Option.some.injEq] at h h'
    subst h; subst h'
    exact .cons (.refl _) (.cons (.refl _) (.cons (.refl _) (.cons (.refl _) (.cons (.refl _) (.cons .nil .nil)))))
  · cases h
theorem fl_end (n : Int) : flR n 4096 = List.replicate 4096 (flE n) := by unfold flR; rw [Nat.sub_self, List.replicate_zero, List.append_nil]
theorem flV_ok {n : Int} (n0 : 0 ≤ n) (n1 : n ≤ 255) : evOk (flV n) = true := evOk_t ⟨by show (1 : Int) ≤ 10; omega, by show (10 : Int) ≤ 13; omega, n0, by show n ≤ _; omega, by show (0 : Int) ≤ 0; omega, by show (0 : Int) ≤ _; omega, by show (0 : Int) ≤ 0; omega, by show (0 : Int) ≤ _; omega, by show 0 ≤ 255; omega, by show 0 ≤ 16; omega⟩
theorem flV_all {n : Int} (n0 : 0 ≤ n) (n1 : n ≤ 255) (k : Nat) : evsOk (List.replicate k (flV n)) = true := by
  unfold evsOk
  rw [List.all_eq_true]
  intro x hx
  rw [List.eq_of_mem_replicate hx]
  exact flV_ok n0 n1
theorem flV_len {n : Int} (n0 : 0 ≤ n) (n1 : n ≤ 255) : (evB (flV n)).length ≤ 8 := by
  have h := encN_len n.toNat 2 (by omega) (by omega)
  unfold evB flV
  simp [encN_lt]
  omega
theorem fl_bytes {c : Cf} {n : Int} {L : List Ev} (hL : L = List.replicate 4096 (flV n)) (hc : cfOk c = true) (n0 : 0 ≤ n) (n1 : n ≤ 255) : (scrD c L).length ≤ 262144 := by
  obtain ⟨h0, h1⟩ := cfOk_of hc
  have hl : c.rs.length ≤ 12 := h0.2.2.2.2.2.2.2.2.2.2.2.2.2.2.2.2
  have a := numsB_len h0 14
  rw [show (fldL c).take 14 = fldL c from rfl] at a
  have b := rtsB_len h1 c.rs.length
  rw [List.take_length] at b
  have hLn : L.length = 4096 := by rw [hL, List.length_replicate]
  have d := flat_len (f := evB) (l := L) (k := 8) (fun x hx => by rw [hL] at hx; rw [List.eq_of_mem_replicate hx]; exact flV_len n0 n1)
  rw [hLn] at d
  have e := encN_len9 c.rs.length (by omega)
  have f := encN_len9 L.length (by omega)
  unfold scrD scrB
  have g : (evsB L).length ≤ 8 * 4096 := d
  have k : (twoB (ckV ([65, 83, 1] ++ numsB (fldL c) ++ encN c.rs.length ++ rtsB c.rs ++ encN L.length ++ evsB L))).length = 2 := rfl
  simp only [List.length_append, List.length_cons, List.length_nil] at k ⊢
  omega
theorem encF_s {c : Cf} {n : Int} {L : List Ev} {Q : List (List SV)} (hQ : Q = List.replicate 4096 (flE n)) (hL : L = List.replicate 4096 (flV n)) (hc : cfOk c = true) (n0 : 0 ≤ n) (n1 : n ≤ 255) : PSpec Try.prog 53 [.agg (cfC c), .rs 6 Q] (· = .tup [.str (scrD c L), .int .i64 0]) := by
  obtain ⟨h0, h1⟩ := cfOk_of hc
  have hl : c.rs.length ≤ 12 := h0.2.2.2.2.2.2.2.2.2.2.2.2.2.2.2.2
  have hLn : L.length = 4096 := by rw [hL, List.length_replicate]
  have h := encode_s c L (by omega) (by omega)
  rw [encR_o hc (by rw [hL]; exact flV_all n0 n1 _) (by omega) (by have := fl_bytes hL hc n0 n1; omega)] at h
  exact h.preA (.cons (.refl _) (.cons (by rw [hL]; exact sle_fl n hQ) .nil))
theorem encF2_s {c : Cf} {n : Int} {Q : List (List SV)} (hQ : Q = List.replicate 4096 (flE n)) (hc : cfOk c = true) (n0 : 0 ≤ n) (n1 : n ≤ 255) : PSpec Try.prog 53 [.agg (cfC c), .rs 6 (Q ++ [flE n])] (· = .tup [.str [], .int .i64 4]) := by
  obtain ⟨h0, h1⟩ := cfOk_of hc
  have hl : c.rs.length ≤ 12 := h0.2.2.2.2.2.2.2.2.2.2.2.2.2.2.2.2
  obtain ⟨L, hL⟩ : ∃ L, L = List.replicate 4097 (flV n) := ⟨_, rfl⟩
  have hLn : L.length = 4097 := by rw [hL, List.length_replicate]
  have h := encode_s c L (by omega) (by omega)
  rw [encR_f hc (by rw [hL]; exact flV_all n0 n1 _) (by omega)] at h
  exact h.preA (.cons (.refl _) (.cons (by rw [hL]; exact sle_fl n (by rw [hQ, ← List.replicate_succ'])) .nil))
theorem decF_s {c : Cf} {n : Int} {L : List Ev} (hL : L = List.replicate 4096 (flV n)) (hc : cfOk c = true) (n0 : 0 ≤ n) (n1 : n ≤ 255) : PSpec Try.prog 54 [.str (scrD c L)] (· = .tup [cfE c, .rs 6 (L.map evE), .int .i64 0]) := by
  have b := fl_bytes hL hc n0 n1
  have hLn : L.length = 4096 := by rw [hL, List.length_replicate]
  have h := decode_s (scrD c L) (by omega)
  rw [decR_enc hc (by rw [hL]; exact flV_all n0 n1 _) (by omega) b] at h
  exact h
theorem flR_at (n : Int) {i : Nat} (h : i < 4096) : (flR n i)[(i : Int).toNat]? = some zrE := by
  unfold flR
  rw [Int.toNat_natCast, List.getElem?_append_right (by simp), List.length_replicate, Nat.sub_self, List.getElem?_replicate, if_pos (by omega)]
theorem flR_get {n : Int} {Q : List (List SV)} (hQ : Q = List.replicate 4096 (flE n)) : Q[(0 : Int).toNat]? = some (flE n) := by rw [hQ, List.getElem?_replicate]; rfl
set_option maxRecDepth 100000 in
set_option maxHeartbeats 8000000 in
theorem scriptFull_s (n : Int) (n0 : 0 ≤ n) (n1 : n ≤ 255) : PSpec Try.prog 13 [.int .u8 n] TrueS := by
  refine .of_code' tab_ok Try.func13 (by rfl) rfl trivial ?_
  conv => whnf
  refine CallG.of_code tab_ok Try.func14 (by rfl) rfl ?_
  conv => whnf
  refine gcfgN_s.call [0] (by decide) (And.intro rfl trivial) (And.intro rfl trivial) ?_
  rintro _ _ ⟨c, rfl, rfl, hc⟩
  conv => whnf
  refine ⟨by simp, ?_⟩
  conv => whnf
  refine LoopG.inv tab_ok 71 (fun i : { i : Nat // i ≤ 4096 } => [(0, .int .u8 n), (3, .ptr 1 0), (4, .sl 2), (5, .int .i64 (i.1 : Int))])
    (fun i => [chs [] (cfA [] 0), .fix 71 (cfC c), .row 74 6 (flR n i.1)]) (fun i => 4096 - i.1) ⟨0, by omega⟩ (.of [some 0, some 1, some 2] (by rfl) ?_) ?_
  · conv => whnf
    refine ⟨by rfl, ?_⟩
    conv => whnf
    refine ⟨by rfl, ?_⟩
    conv => whnf
    refine ⟨by rfl, ?_⟩
    conv => whnf
    refine ⟨by rfl, ?_⟩
    conv => whnf
    refine ⟨by rfl, ?_⟩
    conv => whnf
    refine ⟨by rfl, ?_⟩
    conv => whnf
    refine ⟨by rfl, ?_⟩
    conv => whnf
    refine ⟨by rfl, ?_⟩
    conv => whnf
    refine ⟨by rfl, ?_⟩
    conv => whnf
    refine ⟨by rfl, ?_⟩
    conv => whnf
    refine ⟨by rfl, ?_⟩
    conv => whnf
    refine ⟨by rfl, ?_⟩
    conv => whnf
    refine ⟨by rfl, ?_⟩
    conv => whnf
    refine ⟨by rfl, ?_⟩
    conv => whnf
    refine ⟨by rfl, ?_⟩
    conv => whnf
    refine ⟨by rfl, ?_⟩
    conv => whnf
    refine ⟨by rfl, ?_⟩
    conv => whnf
    refine ⟨by rfl, ?_⟩
    conv => whnf
    refine ⟨by rfl, ?_⟩
    conv => whnf
    refine ⟨by rfl, ?_⟩
    conv => whnf
    exact trivial
  · intro i
    have hi := i.2
    have hl := flR_len n hi
    conv => whnf
    refine ⟨fun hb => ?_, fun hb => ?_⟩
    · have hb : i.1 < 4096 := by simp only [decide_eq_true_eq] at hb; omega
      have hset := flR_set n hb
      have wn : IntKind.i64.wrap n = n := w64 _ (by omega) (by omega)
      conv => whnf
      refine ⟨by omega, ?_⟩
      conv => whnf
      refine ⟨_, flR_at n hb, ?_⟩
      conv => whnf
      (refine ⟨⟨i.1 + 1, by omega⟩, by show 4096 - (i.1 + 1) < 4096 - i.1; omega, .of [some 0, some 1, some 2] (by rfl) ?_⟩)
      conv => whnf
      refine ⟨by rfl, ?_⟩
      conv => whnf
      refine ⟨by exact (w64 _ (by omega) (by omega)).trans (by simp), ?_⟩
      conv => whnf
      refine ⟨by rfl, ?_⟩
      conv => whnf
      refine ⟨by rfl, ?_⟩
      conv => whnf
      refine ⟨by rfl, ?_⟩
      conv => whnf
      refine ⟨by rfl, ?_⟩
      conv => whnf
      refine ⟨by rfl, ?_⟩
      conv => whnf
      refine ⟨by rfl, ?_⟩
      conv => whnf
      refine ⟨by rfl, ?_⟩
      conv => whnf
      refine ⟨by rfl, ?_⟩
      conv => whnf
      refine ⟨by rfl, ?_⟩
      conv => whnf
      refine ⟨by rfl, ?_⟩
      conv => whnf
      refine ⟨by rfl, ?_⟩
      conv => whnf
      refine ⟨by rfl, ?_⟩
      conv => whnf
      refine ⟨by rfl, ?_⟩
      conv => whnf
      refine ⟨by rfl, ?_⟩
      conv => whnf
      refine ⟨by rfl, ?_⟩
      conv => whnf
      refine ⟨by rfl, ?_⟩
      conv => whnf
      refine ⟨by rfl, ?_⟩
      conv => whnf
      refine ⟨by simp [*], ?_⟩
      conv => whnf
      exact trivial
    · have hb : i.1 = 4096 := by simp only [decide_eq_false_iff_not] at hb; omega
      rw [hb] at hl
      have hq := fl_end n
      rw [hb]
      generalize flR n 4096 = Q at *
      obtain ⟨L, hL⟩ : ∃ L, L = List.replicate 4096 (flV n) := ⟨_, rfl⟩
      have hm : (L.map evE).length = 4096 := by rw [List.length_map, hL, List.length_replicate]
      have h1 := encF_s hq hL hc n0 n1
      have h2 := encF2_s hq hc n0 n1
      have h3 := decF_s hL hc n0 n1
      have hg := flR_get hq
      clear hq hL
      conv => whnf
      refine .same ?_
      conv => whnf
      refine h1.lend (And.intro rfl (And.intro rfl trivial)) ?_
      rintro _ rfl
      conv => whnf
      refine h3.call ?_
      rintro _ rfl
      conv => whnf
      refine DrawG.ln mixed tab_ok 4 4096 (by kernel_rfl) ?_
      conv => whnf
      refine ⟨hl, ?_⟩
      conv => whnf
      refine ⟨by omega, ?_⟩
      conv => whnf
      refine ⟨_, hg, ?_⟩
      conv => whnf
      refine ⟨by simp; omega, ?_⟩
      conv => whnf
      refine h2.lendd (And.intro rfl (And.intro rfl trivial)) ?_
      conv => whnf
      refine ⟨by kernel_rfl, ?_⟩
      conv => whnf
      refine both_t rfl ?_
      conv => whnf
      refine both_t rfl ?_
      conv => whnf
      conv => whnf
      refine both_t (by simp [*]) ?_
      conv => whnf
      refine both_t rfl ?_
      conv => whnf
      refine (awake_s).call ?_
      rintro _ rfl
      conv => whnf
theorem scriptFullL (n : Int) (n0 : 0 ≤ n) (n1 : n ≤ 255) : PSpec Try.prog 13 [.int .u8 n] TrueS := scriptFull_s n n0 n1
end Go.Proofs.Ytdommpfnoiemkaa

/- What a statement's arguments that are slices of structs are to the executor. No statement of the seat is proved here. -/
namespace Go.Proofs.Ytdommpfnoiemkaa
open Go.Sx Go.ChangeShapes Go.WideShapes Go.ChangeAt Go.Deep
set_option linter.unusedSimpArgs false
set_option linter.unusedVariables false
section
variable {H : Type} {enc : TypeId × Value → H} {P : Program} {W w : World} {base : Nat} {spare : Nat → Bool} {held : Bool}
theorem open_slice_fields {t e : TypeId} {fs : Array Field} {fuel : Nat} {cs : List Value} {x : DataW H × List MemPlace} (ht : P.underlying t = some (.slice e)) (he : P.underlying e = some (.struct fs))
    (hone : oneCellFields P fs = true) (hC : P.cellsOf e = fs.size) (h : DataW.trod enc P w base spare held fuel t cs = some x) :
    (cs = [.slice none 0 0] ∧ x = (.nil, [])) ∨
    ∃ (a : Addr) (len cap m : Nat) (D : Nat → DataW H) (Pl : Nat → List MemPlace), cs = [.slice (some a) len cap] ∧ base ≤ a.block ∧ len ≤ cap ∧ cap ≤ maxLen ∧ m = (if spare a.block then cap else len) ∧
      x = (.slice ((List.range len).map D) ((List.range (m - len)).map fun j => D (len + j)), MemPlace.row a (m * fs.size) ++ (List.range m).flatMap Pl) ∧
      ∀ i, i < m → ∃ (ys : List (DataW H × List MemPlace)) (n : Nat), D i = .agg (ys.map (·.1)) ∧ Pl i = ys.flatMap (·.2) ∧ ys.length = fs.size ∧
        ∀ (j : Nat) (f : Field), fs[j]? = some f → ∃ (v : Value) (y : DataW H × List MemPlace), w.cell? (a.add (i * fs.size + j)) = some v ∧ ys[j]? = some y ∧ DataW.trod enc P w base spare held n f.type [v] = some y := by
  rcases open_slice ht h with h0 | ⟨a, len, cap, m, n, D, Pl, hcs, hb, hl, hm, hmm, hx, hi⟩
  · exact .inl h0
  · refine .inr ⟨a, len, cap, m, D, Pl, hcs, hb, hl, hm, hmm, by rw [hC] at hx; exact hx, fun i him => ?_⟩
    obtain ⟨cs', hc, ht'⟩ := hi i him
    rw [hC] at hc
    obtain ⟨ys, n', hn', hy, hlen, hyl, hf⟩ := DataW.trod_struct he ht'
    obtain ⟨_, hcl, hat⟩ := World.cells?_some hc
    simp only [Prod.mk.injEq] at hy
    refine ⟨ys, n', hy.1, hy.2, hyl, fun j f hj => ?_⟩
    obtain ⟨ho, hk⟩ := hone_of hone j f hj
    have hjl : j < fs.size := (Array.getElem?_eq_some_iff.1 hj).1
    have hcell := hat j hjl
    have hv : cs'[j]? = some (cs'[j]'(by omega)) := List.getElem?_eq_getElem (by omega)
    have h1 := hf j f hj
    rw [ho, hk] at h1
    have hone' : (cs'.drop j).take 1 = [cs'[j]'(by omega)] := by
      rw [List.drop_eq_getElem_cons (by omega)]
      rfl
    rw [hone'] at h1
    have hys : ys[j]? = some (ys[j]'(by omega)) := List.getElem?_eq_getElem (by omega)
    refine ⟨_, _, ?_, hys, h1.trans hys⟩
    rw [← Go.Deep.add_add, hcell, hv]
/-- A field's reading: a number of a kind (`some k`) or a Bool (`none`). -/
def fieldOk : Option IntKind → SV → Value → Prop
  | some k, s, v => ∃ z : Int, s = .int k z ∧ v = .int k z ∧ (Lit.int k z).wf = true
  | none, s, v => ∃ b : Bool, s = .bool b ∧ v = .bool b
def fieldsOk : List (Option IntKind) → List SV → Prop
  | [], [] => True
  | some k :: ks, s :: es => (∃ z : Int, s = .int k z ∧ (Lit.int k z).wf = true) ∧ fieldsOk ks es
  | none :: ks, s :: es => (∃ b : Bool, s = .bool b) ∧ fieldsOk ks es
  | _, _ => False
def fieldTyP (P : Program) : Option IntKind → TypeId → Prop
  | some k, t => P.underlying t = some (.int k)
  | none, t => P.underlying t = some .bool
theorem field_of {q : Option IntKind} {t : TypeId} {n : Nat} {v : Value} {y : DataW H × List MemPlace} (ht : fieldTyP P q t) (h : DataW.trod enc P w base spare held n t [v] = some y) :
    ∃ s, fieldOk q s v := by
  cases q with
  | some k =>
    obtain ⟨z, hz, _, hw⟩ := DataW.trod_int ht h
    simp at hz; subst hz
    exact ⟨.int k z, z, rfl, rfl, hw⟩
  | none =>
    obtain ⟨b, hz, _⟩ := DataW.trod_bool ht h
    simp at hz; subst hz
    exact ⟨.bool b, b, rfl, rfl⟩
theorem fieldOk_rep {q : Option IntKind} {s : SV} {v : Value} (h : fieldOk q s v) : v.oneCell' = true ∧ ∀ σ, Rep w (fun _ => False) σ s v := by
  cases q with
  | some k => obtain ⟨z, rfl, rfl, _⟩ := h; exact ⟨rfl, fun _ => .int⟩
  | none => obtain ⟨b, rfl, rfl⟩ := h; exact ⟨rfl, fun _ => .bool⟩
theorem fieldsOk_of : ∀ {ks : List (Option IntKind)} {es : List SV}, es.length = ks.length → (∀ (j : Nat) (q : Option IntKind) (s : SV), ks[j]? = some q → es[j]? = some s → ∃ v, fieldOk q s v) → fieldsOk ks es
  | [], [], _, _ => trivial
  | some k :: ks, s :: es, hl, h => by
    obtain ⟨v, z, hz, _, hw⟩ := h 0 (some k) s rfl rfl
    exact ⟨⟨z, hz, hw⟩, fieldsOk_of (by simpa using hl) fun j q s hq hs => h (j + 1) q s hq hs⟩
  | none :: ks, s :: es, hl, h => by
    obtain ⟨v, z, hz, _⟩ := h 0 none s rfl rfl
    exact ⟨⟨z, hz⟩, fieldsOk_of (by simpa using hl) fun j q s hq hs => h (j + 1) q s hq hs⟩
theorem choose_list {α : Type} (n : Nat) (p : Nat → α → Prop) (h : ∀ i, i < n → ∃ a, p i a) : ∃ l : List α, l.length = n ∧ ∀ i a, l[i]? = some a → p i a := by
  induction n with
  | zero => exact ⟨[], rfl, by simp⟩
  | succ n ih =>
    obtain ⟨l, hl, hp⟩ := ih fun i hi => h i (by omega)
    obtain ⟨a, ha⟩ := h n (by omega)
    refine ⟨l ++ [a], by simp [hl], fun i b hb => ?_⟩
    by_cases hi : i < l.length
    · rw [List.getElem?_append_left hi] at hb; exact hp i b hb
    · rw [List.getElem?_append_right (by omega)] at hb
      have : i - l.length = 0 := by
        have := (List.getElem?_eq_some_iff.1 hb).1
        simp at this; omega
      rw [this] at hb
      simp at hb; subst hb
      obtain rfl : i = n := by omega
      exact ha
def fieldTyB (P : Program) (q : Option IntKind) (t : TypeId) : Bool := match q, P.underlying t with
  | some k, some (.int k') => decide (k' = k)
  | none, some .bool => true
  | _, _ => false
def fieldTysB (P : Program) (fs : Array Field) (ks : List (Option IntKind)) : Bool := decide (ks.length = fs.size) && decide (0 < ks.length) && (List.range fs.size).all fun j => match fs[j]?, ks[j]? with
  | some f, some q => fieldTyB P q f.type
  | _, _ => false
theorem fieldTy_of {q : Option IntKind} {t : TypeId} (h : fieldTyB P q t = true) : fieldTyP P q t := by
  unfold fieldTyB at h
  split at h
  · rename_i heq; simp at h; subst h; exact heq
  · rename_i heq; exact heq
  · cases h
theorem fieldTys_of {fs : Array Field} {ks : List (Option IntKind)} (h : fieldTysB P fs ks = true) : ks.length = fs.size ∧ 0 < ks.length ∧ ∀ (j : Nat) (f : Field) (q : Option IntKind), fs[j]? = some f → ks[j]? = some q → fieldTyP P q f.type := by
  simp only [fieldTysB, Bool.and_eq_true, decide_eq_true_eq, List.all_eq_true, List.mem_range] at h
  obtain ⟨⟨h1, h2⟩, h3⟩ := h
  refine ⟨h1, h2, fun j f q hf hq => fieldTy_of ?_⟩
  have := h3 j (Array.getElem?_eq_some_iff.1 hf).1
  rw [hf, hq] at this
  exact this
/-- A slice of structs of numbers and Bools. -/
theorem arg_structs {t e : TypeId} {fs : Array Field} {ks : List (Option IntKind)} {b : Nat} {v : Value} {d : DataW H} {p : List MemPlace} (ht : P.underlying t = some (.slice e)) (he : P.underlying e = some (.struct fs))
    (hone : oneCellFields P fs = true) (hC : P.cellsOf e = fs.size) (hkk : fieldTysB P fs ks = true)
    (hv : Value.okWide P W .any b t v) (h : DataW.Trod enc P W base spare held t v d p) : ∃ es : List (List SV), (∀ e ∈ es, fieldsOk ks e) ∧ Rep W (fun _ => False) [] (.rs ks.length es) v := by
  obtain ⟨hks, hk0, hty⟩ := fieldTys_of hkk
  obtain ⟨a0, len0, cap0, rfl⟩ := okWide_slice ht hv
  obtain ⟨fuel, hf⟩ := h
  rcases open_slice_fields ht he hone hC hf with ⟨hcs, _⟩ | ⟨a, len, cap, m, D, Pl, hcs, _, hl, hm, hmm, _, hi⟩
  · simp [Value.cells] at hcs
    obtain ⟨rfl, rfl, rfl⟩ := hcs
    exact ⟨[], by simp, .rs0 (Nat.zero_le _)⟩
  · simp [Value.cells] at hcs
    obtain ⟨rfl, rfl, rfl⟩ := hcs
    have hml : len0 ≤ m := by rw [hmm]; split <;> omega
    -- the cells of one struct
    have row : ∀ i, i < len0 → ∃ es : List (SV × Value), es.length = ks.length ∧ ∀ j (x : SV × Value), es[j]? = some x → W.cell? (a.add (i * ks.length + j)) = some x.2 ∧ ∃ q, ks[j]? = some q ∧ fieldOk q x.1 x.2 := by
      intro i hil
      obtain ⟨ys, n, _, _, _, hfld⟩ := hi i (by omega)
      obtain ⟨l, hl1, hl2⟩ := choose_list ks.length (fun j (x : SV × Value) => W.cell? (a.add (i * ks.length + j)) = some x.2 ∧ ∃ q, ks[j]? = some q ∧ fieldOk q x.1 x.2) (by
        intro j hj
        have hjf : fs[j]? = some (fs[j]'(by omega)) := Array.getElem?_eq_getElem (by omega)
        have hjk : ks[j]? = some (ks[j]'hj) := List.getElem?_eq_getElem hj
        obtain ⟨v, y, hcell, _, htr⟩ := hfld j _ hjf
        obtain ⟨s, hs⟩ := field_of (hty j _ _ hjf hjk) htr
        exact ⟨(s, v), by rw [hks]; exact hcell, _, hjk, hs⟩)
      exact ⟨l, hl1, hl2⟩
    obtain ⟨rows, hr1, hr2⟩ := choose_list len0 _ row
    have hmem : ∀ (i : Nat) (e : List SV), (rows.map fun r => r.map Prod.fst)[i]? = some e → ∃ r, rows[i]? = some r ∧ e = r.map Prod.fst := by
      intro i e h
      rw [List.getElem?_map] at h
      cases hr : rows[i]? with
      | none => rw [hr] at h; simp at h
      | some r => rw [hr] at h; simp at h; exact ⟨r, rfl, h.symm⟩
    refine ⟨rows.map fun r => r.map Prod.fst, fun e he => ?_, ?_⟩
    · obtain ⟨i, hgi⟩ := List.getElem?_of_mem he
      obtain ⟨r, hr, rfl⟩ := hmem i e hgi
      obtain ⟨h1, h2⟩ := hr2 i r hr
      refine fieldsOk_of (by simp [h1]) fun j q s hq hs => ?_
      rw [List.getElem?_map] at hs
      cases hx : r[j]? with
      | none => rw [hx] at hs; simp at hs
      | some x =>
        rw [hx] at hs; simp at hs; subst hs
        obtain ⟨_, q', hq', hok⟩ := h2 j x hx
        rw [hq] at hq'; simp at hq'; subst hq'
        exact ⟨x.2, hok⟩
    · have hrl : (rows.map fun r => r.map Prod.fst).length = len0 := by simp [hr1]
      by_cases h0 : len0 = 0
      · have : rows = [] := List.eq_nil_of_length_eq_zero (by omega)
        subst this
        subst h0
        exact .rs0 hm
      have key : Rep W (fun _ => False) [] (.rs ks.length (rows.map fun r => r.map Prod.fst)) (.slice (some a) (rows.map fun r => r.map Prod.fst).length cap0) := by
        have hlt : a.block < W.heap.size := by
          obtain ⟨r, hr⟩ : ∃ r, rows[0]? = some r := ⟨_, List.getElem?_eq_getElem (by omega)⟩
          obtain ⟨h1, h2⟩ := hr2 0 r hr
          obtain ⟨x, hx⟩ : ∃ x, r[0]? = some x := ⟨_, List.getElem?_eq_getElem (by omega)⟩
          have := block_lt' (h2 0 x hx).1
          rwa [Go.Sx.add_block] at this
        have get : ∀ (i : Nat) (e : List SV) (j : Nat) (s : SV), (rows.map fun r => r.map Prod.fst)[i]? = some e → e[j]? = some s → ∃ r x, rows[i]? = some r ∧ r[j]? = some x ∧ s = x.1 := by
          intro i e j s he hs
          obtain ⟨r, hr, rfl⟩ := hmem i e he
          rw [List.getElem?_map] at hs
          cases hx : r[j]? with
          | none => rw [hx] at hs; simp at hs
          | some x => rw [hx] at hs; simp at hs; exact ⟨r, x, hr, hx, hs.symm⟩
        refine .rs (val := fun i j => match rows[i]? with | some r => (match r[j]? with | some x => x.2 | none => Go.undef) | none => Go.undef) (by rw [hrl]; exact hl) hm (fun h => h) hlt (fun i e he => ?_) (fun i e j s he hs => ?_) (fun i e j s he hs => ?_) (fun i e j s he hs => ?_)
        · obtain ⟨r, hr, rfl⟩ := hmem i e he
          simp [(hr2 i r hr).1]
        all_goals
          obtain ⟨r, x, hr, hx, rfl⟩ := get i e j s he hs
          obtain ⟨hc, q, _, hok⟩ := (hr2 i r hr).2 j x hx
          simp only [hr, hx]
        · exact hc
        · exact (fieldOk_rep (w := W) hok).1
        · exact (fieldOk_rep (w := W) hok).2 _
      rw [hrl] at key
      exact key
end
end Go.Proofs.Ytdommpfnoiemkaa

/- Statements' arguments that are strings and headers. No statement of the seat is proved here. -/
namespace Go.Proofs.Ytdommpfnoiemkaa
open Go.Sx Go.ChangeShapes Go.WideShapes Go.ChangeAt Go.Deep
set_option linter.unusedSimpArgs false
set_option linter.unusedVariables false
theorem array5 {α : Type} {cs : Array α} (h : cs.size = 5) : ∃ c0 c1 c2 c3 c4, cs = #[c0, c1, c2, c3, c4] := by
  obtain ⟨l⟩ := cs
  match l, h with
  | [c0, c1, c2, c3, c4], _ => exact ⟨c0, c1, c2, c3, c4, rfl⟩
theorem rep_bstr {w : World} {E : Nat → Prop} {σ : Sg} (s : ByteArray) : Rep w E σ (.str s.data.toList) (.string s) := by
  obtain ⟨⟨l⟩⟩ := s
  exact .str
theorem rep_cells {w : World} {E : Nat → Prop} {σ : Sg} {cs : List SV} {vs : List Value} (hl : cs.length = vs.length) (h : ∀ (i : Nat) (s : SV) (v : Value), cs[i]? = some s → vs[i]? = some v → v.oneCell' = true ∧ Rep w E σ s v) : Rep w E σ (.agg cs) (.agg vs.toArray) := by
  refine .agg (by simpa using hl) (fun i v hv => ?_) (fun i s v hs hv => (h i s v hs (by simpa using hv)).2)
  have hi : i < cs.length := by rw [hl]; simpa using (Array.getElem?_eq_some_iff.1 hv).1
  exact (h i _ v (List.getElem?_eq_getElem hi) (by simpa using hv)).1
theorem rep_hd {w : World} {E : Nat → Prop} {σ : Sg} (s : ByteArray) (c p l f : Int) : Rep w E σ (hdE ⟨s.data.toList, c, p, l, f⟩) (.agg #[.string s, .int .i64 c, .int .i64 p, .int .i64 l, .int .i64 f]) := by
  refine rep_cells (vs := [.string s, .int .i64 c, .int .i64 p, .int .i64 l, .int .i64 f]) rfl fun i x v hx hv => ?_
  match i with
  | 0 => simp at hx hv; subst hx; subst hv; exact ⟨rfl, rep_bstr s⟩
  | 1 => simp at hx hv; subst hx; subst hv; exact ⟨rfl, .int⟩
  | 2 => simp at hx hv; subst hx; subst hv; exact ⟨rfl, .int⟩
  | 3 => simp at hx hv; subst hx; subst hv; exact ⟨rfl, .int⟩
  | 4 => simp at hx hv; subst hx; subst hv; exact ⟨rfl, .int⟩
  | i + 5 => simp at hx
section
variable {H : Type} {enc : TypeId × Value → H} {W : World} {base : Nat} {spare : Nat → Bool} {held : Bool}
theorem trod_field {P : Program} {t : TypeId} {fs : Array Field} {fuel : Nat} {cs : List Value} {x : DataW H × List MemPlace} (ht : P.underlying t = some (.struct fs)) (h : DataW.trod enc P W base spare held fuel t cs = some x) (i : Nat) (f : Field) (hf : fs[i]? = some f) :
    ∃ y n, DataW.trod enc P W base spare held n f.type ((cs.drop f.offset).take (P.cellsOf f.type)) = some y := by
  obtain ⟨xs, n, _, _, _, hl, hx⟩ := DataW.trod_struct ht h
  have hi : i < xs.length := by rw [hl]; exact (Array.getElem?_eq_some_iff.1 hf).1
  exact ⟨_, n, (hx i f hf).trans (List.getElem?_eq_getElem hi)⟩
set_option maxRecDepth 100000 in
theorem arg_str {b : Nat} {v : Value} {d : DataW H} {p : List MemPlace} (hv : Value.okWide Try.prog W .any b 9 v) (h : DataW.Trod enc Try.prog W base spare held 9 v d p) :
    ∃ s : { s : List UInt8 // s.length ≤ 9223372036854775807 }, Rep W (fun _ => False) [] (.str s.1) v := by
  obtain ⟨s, rfl, _, _, hs⟩ := Go.ChangeMaps.open_string Try.underlying9 hv h
  have e : s.data.toList.length = s.size := by rw [Array.length_toList]; rfl
  exact ⟨⟨s.data.toList, by rw [e]; exact Nat.le_trans hs (by decide)⟩, rep_bstr s⟩
set_option maxRecDepth 100000 in
theorem arg_header {b : Nat} {v : Value} {d : DataW H} {p : List MemPlace} (hv : Value.okWide Try.prog W .any b 24 v) (h : DataW.Trod enc Try.prog W base spare held 24 v d p) :
    ∃ h : Hd, Rep W (fun _ => False) [] (hdE h) v := by
  obtain ⟨cs, rfl, hsz⟩ := okWide_struct Try.underlying24 hv
  obtain ⟨c0, c1, c2, c3, c4, rfl⟩ := array5 (hsz.trans (by kernel_rfl))
  obtain ⟨fuel, hf⟩ := h
  obtain ⟨y0, n0, h0⟩ := trod_field Try.underlying24 hf 0 _ rfl
  obtain ⟨y1, n1, h1⟩ := trod_field Try.underlying24 hf 1 _ rfl
  obtain ⟨y2, n2, h2⟩ := trod_field Try.underlying24 hf 2 _ rfl
  obtain ⟨y3, n3, h3⟩ := trod_field Try.underlying24 hf 3 _ rfl
  obtain ⟨y4, n4, h4⟩ := trod_field Try.underlying24 hf 4 _ rfl
  rw [show Try.prog.cellsOf _ = 1 from by kernel_rfl] at h0 h1 h2 h3 h4
  obtain ⟨s, e0, _, _⟩ := DataW.trod_string Try.underlying9 h0
  obtain ⟨a1, e1, _, _⟩ := DataW.trod_int Try.underlying3 h1
  obtain ⟨a2, e2, _, _⟩ := DataW.trod_int Try.underlying3 h2
  obtain ⟨a3, e3, _, _⟩ := DataW.trod_int Try.underlying3 h3
  obtain ⟨a4, e4, _, _⟩ := DataW.trod_int Try.underlying3 h4
  obtain rfl := List.singleton_inj.1 e0
  obtain rfl := List.singleton_inj.1 e1
  obtain rfl := List.singleton_inj.1 e2
  obtain rfl := List.singleton_inj.1 e3
  obtain rfl := List.singleton_inj.1 e4
  exact ⟨⟨_, a1, a2, a3, a4⟩, rep_hd s a1 a2 a3 a4⟩
end
end Go.Proofs.Ytdommpfnoiemkaa

/- Statements' arguments that are configurations and events. No statement of the seat is proved here. -/
namespace Go.Proofs.Ytdommpfnoiemkaa
open Go.Sx Go.ChangeShapes Go.WideShapes Go.ChangeAt Go.Deep
set_option linter.unusedSimpArgs false
set_option linter.unusedVariables false
theorem array15 {α : Type} {cs : Array α} (h : cs.size = 15) : ∃ c0 c1 c2 c3 c4 c5 c6 c7 c8 c9 c10 c11 c12 c13 c14, cs = #[c0, c1, c2, c3, c4, c5, c6, c7, c8, c9, c10, c11, c12, c13, c14] := by
  obtain ⟨l⟩ := cs
  match l, h with
  | [c0, c1, c2, c3, c4, c5, c6, c7, c8, c9, c10, c11, c12, c13, c14], _ => exact ⟨c0, c1, c2, c3, c4, c5, c6, c7, c8, c9, c10, c11, c12, c13, c14, rfl⟩
theorem array6 {α : Type} {cs : Array α} (h : cs.size = 6) : ∃ c0 c1 c2 c3 c4 c5, cs = #[c0, c1, c2, c3, c4, c5] := by
  obtain ⟨l⟩ := cs
  match l, h with
  | [c0, c1, c2, c3, c4, c5], _ => exact ⟨c0, c1, c2, c3, c4, c5, rfl⟩
theorem rep_bools {w : World} {x : Addr} {len cap : Nat} {B : Nat → Bool} (hl : len ≤ cap) (hm : cap ≤ maxLen) (hcell : ∀ i, i < cap → w.cell? (x.add i) = some (.bool (B i))) :
    Rep w (fun _ => False) [] (.rs 1 (((List.range len).map B).map fun b => [SV.bool b])) (.slice (some x) len cap) := by
  have hrl : (((List.range len).map B).map fun b => [SV.bool b]).length = len := by simp
  cases hlen : len with
  | zero => exact .rs0 hm
  | succ n =>
    rw [← hlen]
    have h0 := hcell 0 (by omega)
    have hlt := block_lt' h0
    rw [add_block] at hlt
    have hget : ∀ (i : Nat) (e : List SV), (((List.range len).map B).map fun b => [SV.bool b])[i]? = some e → i < len ∧ e = [.bool (B i)] := by
      intro i e he
      have hi : i < len := by rw [← hrl]; exact (List.getElem?_eq_some_iff.1 he).1
      simp [hi] at he
      exact ⟨hi, he.symm⟩
    have key : Rep w (fun _ => False) [] (.rs 1 (((List.range len).map B).map fun b => [SV.bool b])) (.slice (some x) (((List.range len).map B).map fun b => [SV.bool b]).length cap) := by
      refine .rs (val := fun i _ => .bool (B i)) (by rw [hrl]; exact hl) hm (fun h => h) hlt (fun i e he => by rw [(hget i e he).2]; rfl) (fun i e j s he hs => ?_) (fun i e j s he hs => rfl) (fun i e j s he hs => ?_)
      all_goals obtain ⟨hi, rfl⟩ := hget i e he
      all_goals
        have hj : j = 0 := by
          have := (List.getElem?_eq_some_iff.1 hs).1
          simpa using this
        subst hj
      · simpa using hcell i (by omega)
      · simp at hs; subst hs; exact .bool
    rw [hrl] at key
    exact key
theorem rep_cf {w : World} {E : Nat → Prop} {σ : Sg} {rs : List (Int × Int)} {s : Value} (a0 a1 a2 a3 a4 a5 a6 a7 a8 a9 a10 a11 a12 a13 : Int) (h1 : s.oneCell' = true) (h : Rep w E σ (.rs 2 (rs.map rtE)) s) : Rep w E σ (cfE ⟨a0, a1, a2, a3, a4, a5, a6, a7, a8, a9, a10, a11, a12, a13, rs⟩) (.agg #[.int .i64 a0, .int .i64 a1, .int .i64 a2, .int .i64 a3, .int .i64 a4, .int .i64 a5, .int .i64 a6, .int .i64 a7, .int .i64 a8, .int .i64 a9, .int .i64 a10, .int .i64 a11, .int .i64 a12, .int .i64 a13, s]) := by
  refine rep_cells (vs := [.int .i64 a0, .int .i64 a1, .int .i64 a2, .int .i64 a3, .int .i64 a4, .int .i64 a5, .int .i64 a6, .int .i64 a7, .int .i64 a8, .int .i64 a9, .int .i64 a10, .int .i64 a11, .int .i64 a12, .int .i64 a13, s]) rfl fun i x v hx hv => ?_
  match i with
  | 0 => simp at hx hv; subst hx; subst hv; exact ⟨rfl, .int⟩
  | 1 => simp at hx hv; subst hx; subst hv; exact ⟨rfl, .int⟩
  | 2 => simp at hx hv; subst hx; subst hv; exact ⟨rfl, .int⟩
  | 3 => simp at hx hv; subst hx; subst hv; exact ⟨rfl, .int⟩
  | 4 => simp at hx hv; subst hx; subst hv; exact ⟨rfl, .int⟩
  | 5 => simp at hx hv; subst hx; subst hv; exact ⟨rfl, .int⟩
  | 6 => simp at hx hv; subst hx; subst hv; exact ⟨rfl, .int⟩
  | 7 => simp at hx hv; subst hx; subst hv; exact ⟨rfl, .int⟩
  | 8 => simp at hx hv; subst hx; subst hv; exact ⟨rfl, .int⟩
  | 9 => simp at hx hv; subst hx; subst hv; exact ⟨rfl, .int⟩
  | 10 => simp at hx hv; subst hx; subst hv; exact ⟨rfl, .int⟩
  | 11 => simp at hx hv; subst hx; subst hv; exact ⟨rfl, .int⟩
  | 12 => simp at hx hv; subst hx; subst hv; exact ⟨rfl, .int⟩
  | 13 => simp at hx hv; subst hx; subst hv; exact ⟨rfl, .int⟩
  | 14 => simp at hx hv; subst hx; subst hv; exact ⟨h1, h⟩
  | i + 15 => simp at hx
theorem rep_ev {w : World} {E : Nat → Prop} {σ : Sg} {fl : List Bool} {s : Value} (b : ByteArray) (a0 a1 a2 a3 : Int) (h1 : s.oneCell' = true) (h : Rep w E σ (.rs 1 (fl.map blE)) s) : Rep w E σ (.agg (evE ⟨a0, a1, a2, a3, b.data.toList, fl⟩)) (.agg #[.int .i64 a0, .int .i64 a1, .int .i64 a2, .int .i64 a3, .string b, s]) := by
  refine rep_cells (vs := [.int .i64 a0, .int .i64 a1, .int .i64 a2, .int .i64 a3, .string b, s]) rfl fun i x v hx hv => ?_
  match i with
  | 0 => simp at hx hv; subst hx; subst hv; exact ⟨rfl, .int⟩
  | 1 => simp at hx hv; subst hx; subst hv; exact ⟨rfl, .int⟩
  | 2 => simp at hx hv; subst hx; subst hv; exact ⟨rfl, .int⟩
  | 3 => simp at hx hv; subst hx; subst hv; exact ⟨rfl, .int⟩
  | 4 => simp at hx hv; subst hx; subst hv; exact ⟨rfl, rep_bstr b⟩
  | 5 => simp at hx hv; subst hx; subst hv; exact ⟨h1, h⟩
  | i + 6 => simp at hx
theorem rs_len {w : World} {E : Nat → Prop} {σ : Sg} {z : Nat} {es : List (List SV)} {v : Value} (h : Rep w E σ (.rs z es) v) : es.length ≤ 9223372036854775807 ∧ v.oneCell' = true := by
  cases h with
  | rs0 _ => exact ⟨Nat.zero_le _, rfl⟩
  | rs hc hm _ _ _ _ _ _ => exact ⟨Nat.le_trans hc (Nat.le_trans hm (by decide)), rfl⟩
theorem fieldsR {k1 k2 : IntKind} : ∀ {e : List SV}, fieldsOk [some k1, some k2] e → ∃ x y : Int, e = [.int k1 x, .int k2 y]
  | [], h => h.elim
  | [_], h => h.2.elim
  | [a, b], h => by
    obtain ⟨x, hx⟩ := h.1
    obtain ⟨y, hy⟩ := h.2.1
    exact ⟨x, y, by rw [hx.1, hy.1]⟩
  | _ :: _ :: _ :: _, h => h.2.2.elim
theorem rts_of : ∀ {es : List (List SV)}, (∀ e ∈ es, fieldsOk [some .i64, some .i64] e) → ∃ ts : List (Int × Int), es = ts.map rtE := by
  intro es
  induction es with
  | nil => exact fun _ => ⟨[], rfl⟩
  | cons e es ih =>
    intro h
    obtain ⟨ts, hts⟩ := ih fun e he => h e (List.mem_cons_of_mem _ he)
    obtain ⟨x, y, he⟩ := fieldsR (h e (List.mem_cons_self ..))
    exact ⟨(x, y) :: ts, by rw [hts, he]; rfl⟩
section
variable {H : Type} {enc : TypeId × Value → H} {P : Program} {W : World} {base : Nat} {spare : Nat → Bool} {held : Bool}
/-- A slice of structs of numbers and Bools. -/
theorem arg_structsF {t e : TypeId} {fs : Array Field} {ks : List (Option IntKind)} {fuel : Nat} {v : Value} {y0 : DataW H × List MemPlace} (ht : P.underlying t = some (.slice e)) (he : P.underlying e = some (.struct fs))
    (hone : oneCellFields P fs = true) (hC : P.cellsOf e = fs.size) (hkk : fieldTysB P fs ks = true)
    (hf : DataW.trod enc P W base spare held fuel t [v] = some y0) : ∃ es : List (List SV), (∀ e ∈ es, fieldsOk ks e) ∧ Rep W (fun _ => False) [] (.rs ks.length es) v := by
  obtain ⟨hks, hk0, hty⟩ := fieldTys_of hkk
  rcases open_slice_fields ht he hone hC hf with ⟨hcs, _⟩ | ⟨a, len, cap, m, D, Pl, hcs, _, hl, hm, hmm, _, hi⟩
  · obtain rfl := List.singleton_inj.1 hcs
    exact ⟨[], by simp, .rs0 (Nat.zero_le _)⟩
  · obtain rfl := List.singleton_inj.1 hcs
    have hml : len ≤ m := by rw [hmm]; split <;> omega
    -- the cells of one struct
    have row : ∀ i, i < len → ∃ es : List (SV × Value), es.length = ks.length ∧ ∀ j (x : SV × Value), es[j]? = some x → W.cell? (a.add (i * ks.length + j)) = some x.2 ∧ ∃ q, ks[j]? = some q ∧ fieldOk q x.1 x.2 := by
      intro i hil
      obtain ⟨ys, n, _, _, _, hfld⟩ := hi i (by omega)
      obtain ⟨l, hl1, hl2⟩ := choose_list ks.length (fun j (x : SV × Value) => W.cell? (a.add (i * ks.length + j)) = some x.2 ∧ ∃ q, ks[j]? = some q ∧ fieldOk q x.1 x.2) (by
        intro j hj
        have hjf : fs[j]? = some (fs[j]'(by omega)) := Array.getElem?_eq_getElem (by omega)
        have hjk : ks[j]? = some (ks[j]'hj) := List.getElem?_eq_getElem hj
        obtain ⟨v, y, hcell, _, htr⟩ := hfld j _ hjf
        obtain ⟨s, hs⟩ := field_of (hty j _ _ hjf hjk) htr
        exact ⟨(s, v), by rw [hks]; exact hcell, _, hjk, hs⟩)
      exact ⟨l, hl1, hl2⟩
    obtain ⟨rows, hr1, hr2⟩ := choose_list len _ row
    have hmem : ∀ (i : Nat) (e : List SV), (rows.map fun r => r.map Prod.fst)[i]? = some e → ∃ r, rows[i]? = some r ∧ e = r.map Prod.fst := by
      intro i e h
      rw [List.getElem?_map] at h
      cases hr : rows[i]? with
      | none => rw [hr] at h; simp at h
      | some r => rw [hr] at h; simp at h; exact ⟨r, rfl, h.symm⟩
    refine ⟨rows.map fun r => r.map Prod.fst, fun e he => ?_, ?_⟩
    · obtain ⟨i, hgi⟩ := List.getElem?_of_mem he
      obtain ⟨r, hr, rfl⟩ := hmem i e hgi
      obtain ⟨h1, h2⟩ := hr2 i r hr
      refine fieldsOk_of (by simp [h1]) fun j q s hq hs => ?_
      rw [List.getElem?_map] at hs
      cases hx : r[j]? with
      | none => rw [hx] at hs; simp at hs
      | some x =>
        rw [hx] at hs; simp at hs; subst hs
        obtain ⟨_, q', hq', hok⟩ := h2 j x hx
        rw [hq] at hq'; simp at hq'; subst hq'
        exact ⟨x.2, hok⟩
    · have hrl : (rows.map fun r => r.map Prod.fst).length = len := by simp [hr1]
      by_cases h0 : len = 0
      · have : rows = [] := List.eq_nil_of_length_eq_zero (by omega)
        subst this
        subst h0
        exact .rs0 hm
      have key : Rep W (fun _ => False) [] (.rs ks.length (rows.map fun r => r.map Prod.fst)) (.slice (some a) (rows.map fun r => r.map Prod.fst).length cap) := by
        have hlt : a.block < W.heap.size := by
          obtain ⟨r, hr⟩ : ∃ r, rows[0]? = some r := ⟨_, List.getElem?_eq_getElem (by omega)⟩
          obtain ⟨h1, h2⟩ := hr2 0 r hr
          obtain ⟨x, hx⟩ : ∃ x, r[0]? = some x := ⟨_, List.getElem?_eq_getElem (by omega)⟩
          have := block_lt' (h2 0 x hx).1
          rwa [Go.Sx.add_block] at this
        have get : ∀ (i : Nat) (e : List SV) (j : Nat) (s : SV), (rows.map fun r => r.map Prod.fst)[i]? = some e → e[j]? = some s → ∃ r x, rows[i]? = some r ∧ r[j]? = some x ∧ s = x.1 := by
          intro i e j s he hs
          obtain ⟨r, hr, rfl⟩ := hmem i e he
          rw [List.getElem?_map] at hs
          cases hx : r[j]? with
          | none => rw [hx] at hs; simp at hs
          | some x => rw [hx] at hs; simp at hs; exact ⟨r, x, hr, hx, hs.symm⟩
        refine .rs (val := fun i j => match rows[i]? with | some r => (match r[j]? with | some x => x.2 | none => Go.undef) | none => Go.undef) (by rw [hrl]; exact hl) hm (fun h => h) hlt (fun i e he => ?_) (fun i e j s he hs => ?_) (fun i e j s he hs => ?_) (fun i e j s he hs => ?_)
        · obtain ⟨r, hr, rfl⟩ := hmem i e he
          simp [(hr2 i r hr).1]
        all_goals
          obtain ⟨r, x, hr, hx, rfl⟩ := get i e j s he hs
          obtain ⟨hc, q, _, hok⟩ := (hr2 i r hr).2 j x hx
          simp only [hr, hx]
        · exact hc
        · exact (fieldOk_rep (w := W) hok).1
        · exact (fieldOk_rep (w := W) hok).2 _
      rw [hrl] at key
      exact key
set_option maxRecDepth 100000 in
theorem arg_config {b : Nat} {v : Value} {d : DataW H} {p : List MemPlace} (hv : Value.okWide Try.prog W .any b 71 v) (h : DataW.Trod enc Try.prog W base spare held 71 v d p) :
    ∃ c : { c : Cf // c.rs.length ≤ 9223372036854775807 }, Rep W (fun _ => False) [] (cfE c.1) v := by
  obtain ⟨cs, rfl, hsz⟩ := okWide_struct Try.underlying71 hv
  obtain ⟨c0, c1, c2, c3, c4, c5, c6, c7, c8, c9, c10, c11, c12, c13, c14, rfl⟩ := array15 (hsz.trans (by kernel_rfl))
  obtain ⟨fuel, hf⟩ := h
  obtain ⟨y0, n0, h0⟩ := trod_field Try.underlying71 hf 0 _ rfl
  rw [show Try.prog.cellsOf _ = 1 from by kernel_rfl] at h0
  obtain ⟨a0, e0, _, _⟩ := DataW.trod_int Try.underlying3 h0
  obtain rfl := List.singleton_inj.1 e0
  obtain ⟨y1, n1, h1⟩ := trod_field Try.underlying71 hf 1 _ rfl
  rw [show Try.prog.cellsOf _ = 2 from by kernel_rfl] at h1
  have g1 : DataW.trod enc Try.prog W base spare held n1 64 [c1, c2] = some y1 := h1
  obtain ⟨y1_0, n1_0, h1_0⟩ := trod_field Try.underlying64 g1 0 _ rfl
  rw [show Try.prog.cellsOf _ = 1 from by kernel_rfl] at h1_0
  obtain ⟨a1, e1, _, _⟩ := DataW.trod_int Try.underlying2 h1_0
  obtain rfl := List.singleton_inj.1 e1
  obtain ⟨y1_1, n1_1, h1_1⟩ := trod_field Try.underlying64 g1 1 _ rfl
  rw [show Try.prog.cellsOf _ = 1 from by kernel_rfl] at h1_1
  obtain ⟨a2, e2, _, _⟩ := DataW.trod_int Try.underlying2 h1_1
  obtain rfl := List.singleton_inj.1 e2
  obtain ⟨y2, n2, h2⟩ := trod_field Try.underlying71 hf 2 _ rfl
  rw [show Try.prog.cellsOf _ = 3 from by kernel_rfl] at h2
  have g2 : DataW.trod enc Try.prog W base spare held n2 66 [c3, c4, c5] = some y2 := h2
  obtain ⟨y2_0, n2_0, h2_0⟩ := trod_field Try.underlying66 g2 0 _ rfl
  rw [show Try.prog.cellsOf _ = 1 from by kernel_rfl] at h2_0
  obtain ⟨a3, e3, _, _⟩ := DataW.trod_int Try.underlying3 h2_0
  obtain rfl := List.singleton_inj.1 e3
  obtain ⟨y2_1, n2_1, h2_1⟩ := trod_field Try.underlying66 g2 1 _ rfl
  rw [show Try.prog.cellsOf _ = 1 from by kernel_rfl] at h2_1
  obtain ⟨a4, e4, _, _⟩ := DataW.trod_int Try.underlying3 h2_1
  obtain rfl := List.singleton_inj.1 e4
  obtain ⟨y2_2, n2_2, h2_2⟩ := trod_field Try.underlying66 g2 2 _ rfl
  rw [show Try.prog.cellsOf _ = 1 from by kernel_rfl] at h2_2
  obtain ⟨a5, e5, _, _⟩ := DataW.trod_int Try.underlying3 h2_2
  obtain rfl := List.singleton_inj.1 e5
  obtain ⟨y3, n3, h3⟩ := trod_field Try.underlying71 hf 3 _ rfl
  rw [show Try.prog.cellsOf _ = 3 from by kernel_rfl] at h3
  have g3 : DataW.trod enc Try.prog W base spare held n3 68 [c6, c7, c8] = some y3 := h3
  obtain ⟨y3_0, n3_0, h3_0⟩ := trod_field Try.underlying68 g3 0 _ rfl
  rw [show Try.prog.cellsOf _ = 1 from by kernel_rfl] at h3_0
  obtain ⟨a6, e6, _, _⟩ := DataW.trod_int Try.underlying3 h3_0
  obtain rfl := List.singleton_inj.1 e6
  obtain ⟨y3_1, n3_1, h3_1⟩ := trod_field Try.underlying68 g3 1 _ rfl
  rw [show Try.prog.cellsOf _ = 1 from by kernel_rfl] at h3_1
  obtain ⟨a7, e7, _, _⟩ := DataW.trod_int Try.underlying3 h3_1
  obtain rfl := List.singleton_inj.1 e7
  obtain ⟨y3_2, n3_2, h3_2⟩ := trod_field Try.underlying68 g3 2 _ rfl
  rw [show Try.prog.cellsOf _ = 1 from by kernel_rfl] at h3_2
  obtain ⟨a8, e8, _, _⟩ := DataW.trod_int Try.underlying2 h3_2
  obtain rfl := List.singleton_inj.1 e8
  obtain ⟨y4, n4, h4⟩ := trod_field Try.underlying71 hf 4 _ rfl
  rw [show Try.prog.cellsOf _ = 1 from by kernel_rfl] at h4
  obtain ⟨a9, e9, _, _⟩ := DataW.trod_int Try.underlying3 h4
  obtain rfl := List.singleton_inj.1 e9
  obtain ⟨y5, n5, h5⟩ := trod_field Try.underlying71 hf 5 _ rfl
  rw [show Try.prog.cellsOf _ = 1 from by kernel_rfl] at h5
  obtain ⟨a10, e10, _, _⟩ := DataW.trod_int Try.underlying3 h5
  obtain rfl := List.singleton_inj.1 e10
  obtain ⟨y6, n6, h6⟩ := trod_field Try.underlying71 hf 6 _ rfl
  rw [show Try.prog.cellsOf _ = 1 from by kernel_rfl] at h6
  obtain ⟨a11, e11, _, _⟩ := DataW.trod_int Try.underlying2 h6
  obtain rfl := List.singleton_inj.1 e11
  obtain ⟨y7, n7, h7⟩ := trod_field Try.underlying71 hf 7 _ rfl
  rw [show Try.prog.cellsOf _ = 1 from by kernel_rfl] at h7
  obtain ⟨a12, e12, _, _⟩ := DataW.trod_int Try.underlying3 h7
  obtain rfl := List.singleton_inj.1 e12
  obtain ⟨y8, n8, h8⟩ := trod_field Try.underlying71 hf 8 _ rfl
  rw [show Try.prog.cellsOf _ = 1 from by kernel_rfl] at h8
  obtain ⟨a13, e13, _, _⟩ := DataW.trod_int Try.underlying2 h8
  obtain rfl := List.singleton_inj.1 e13
  obtain ⟨y9, n9, h9⟩ := trod_field Try.underlying71 hf 9 _ rfl
  rw [show Try.prog.cellsOf _ = 1 from by kernel_rfl] at h9
  have g9 : DataW.trod enc Try.prog W base spare held n9 69 [c14] = some y9 := h9
  obtain ⟨es, k1, k2⟩ := arg_structsF (ks := [some .i64, some .i64]) Try.underlying69 Try.underlying115 (by kernel_rfl) (by kernel_rfl) (by kernel_rfl) g9
  obtain ⟨ts, rfl⟩ := rts_of k1
  obtain ⟨l1, l2⟩ := rs_len k2
  exact ⟨⟨⟨a0, a1, a2, a3, a4, a5, a6, a7, a8, a9, a10, a11, a12, a13, ts⟩, by rw [List.length_map] at l1; exact l1⟩, rep_cf a0 a1 a2 a3 a4 a5 a6 a7 a8 a9 a10 a11 a12 a13 l2 k2⟩
end
section
variable {H : Type} {enc : TypeId × Value → H} {W : World} {base : Nat} {held : Bool}
set_option maxRecDepth 100000 in
theorem arg_event {b : Nat} {v : Value} {d : DataW H} {p : List MemPlace} (hv : Value.okWide Try.prog W .any b 74 v) (h : DataW.Trod enc Try.prog W base (fun _ => true) held 74 v d p) :
    ∃ e : Ev, Rep W (fun _ => False) [] (.agg (evE e)) v := by
  obtain ⟨cs, rfl, hsz⟩ := okWide_struct Try.underlying74 hv
  obtain ⟨c0, c1, c2, c3, c4, c5, rfl⟩ := array6 (hsz.trans (by kernel_rfl))
  obtain ⟨fuel, hf⟩ := h
  obtain ⟨y0, n0, h0⟩ := trod_field Try.underlying74 hf 0 _ rfl
  rw [show Try.prog.cellsOf _ = 1 from by kernel_rfl] at h0
  obtain ⟨a0, e0, _, _⟩ := DataW.trod_int Try.underlying3 h0
  obtain rfl := List.singleton_inj.1 e0
  obtain ⟨y1, n1, h1⟩ := trod_field Try.underlying74 hf 1 _ rfl
  rw [show Try.prog.cellsOf _ = 1 from by kernel_rfl] at h1
  obtain ⟨a1, e1, _, _⟩ := DataW.trod_int Try.underlying3 h1
  obtain rfl := List.singleton_inj.1 e1
  obtain ⟨y2, n2, h2⟩ := trod_field Try.underlying74 hf 2 _ rfl
  rw [show Try.prog.cellsOf _ = 1 from by kernel_rfl] at h2
  obtain ⟨a2, e2, _, _⟩ := DataW.trod_int Try.underlying3 h2
  obtain rfl := List.singleton_inj.1 e2
  obtain ⟨y3, n3, h3⟩ := trod_field Try.underlying74 hf 3 _ rfl
  rw [show Try.prog.cellsOf _ = 1 from by kernel_rfl] at h3
  obtain ⟨a3, e3, _, _⟩ := DataW.trod_int Try.underlying3 h3
  obtain rfl := List.singleton_inj.1 e3
  obtain ⟨y4, n4, h4⟩ := trod_field Try.underlying74 hf 4 _ rfl
  rw [show Try.prog.cellsOf _ = 1 from by kernel_rfl] at h4
  obtain ⟨y5, n5, h5⟩ := trod_field Try.underlying74 hf 5 _ rfl
  rw [show Try.prog.cellsOf _ = 1 from by kernel_rfl] at h5
  obtain ⟨s, e4, _, _⟩ := DataW.trod_string Try.underlying9 h4
  obtain rfl := List.singleton_inj.1 e4
  have g5 : DataW.trod enc Try.prog W base (fun _ => true) held n5 72 [c5] = some y5 := h5
  have key : ∃ fl : List Bool, Rep W (fun _ => False) [] (.rs 1 (fl.map blE)) c5 := by
    rcases open_bools Try.underlying72 Try.underlying4 (by kernel_rfl) g5 with ⟨hcs, _⟩ | ⟨a, len, cap, B, hcs, _, hl, hm, _, hcell⟩
    · obtain rfl := List.singleton_inj.1 hcs
      exact ⟨[], .rs0 (Nat.zero_le _)⟩
    · obtain rfl := List.singleton_inj.1 hcs
      exact ⟨_, rep_bools hl hm hcell⟩
  obtain ⟨fl, k2⟩ := key
  exact ⟨⟨a0, a1, a2, a3, _, fl⟩, rep_ev s a0 a1 a2 a3 (rs_len k2).2 k2⟩
end
end Go.Proofs.Ytdommpfnoiemkaa
