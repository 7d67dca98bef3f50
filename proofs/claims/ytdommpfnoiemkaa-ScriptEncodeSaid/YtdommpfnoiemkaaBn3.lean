/- Lemmas and contracts, part 3 of 4. No statement of the seat is proved here. -/
import Derived.Test.YtdommpfnoiemkaaBn2
/- Chapter 27: scripts read, by the reference. -/
namespace Go.Proofs.Ytdommpfnoiemkaa
open Go.Sx
set_option linter.unusedSimpArgs false
set_option linter.unusedVariables false
theorem pE_g {l : List Nat} {u : List UInt8} {fl : List Bool} {s s1 s2 s3 : List UInt8} {b b1 b2 b3 : Bool} (h1 : tg l s1 b1 = (st s b).bind (pNs 4)) (h2 : tg u s2 b2 = (st s1 b1).bind pX) (h3 : tg fl s3 b3 = (st s2 b2).bind pG) :
    tg (mkEv l u fl) s3 b3 = (st s b).bind pE := by
  have e1 := chain h1 fun l t => (pX t).bind fun u => (pG u.2).bind fun r => some (mkEv l u.1 r.1, r.2)
  have e2 := chain h2 fun u t => (pG t).bind fun r => some (mkEv l u r.1, r.2)
  have e3 : ((st s2 b2).bind fun t => (pG t).bind fun r => some (mkEv l u r.1, r.2)) = ((st s2 b2).bind pG).bind fun r => some (mkEv l u r.1, r.2) := by cases st s2 b2 <;> rfl
  have e0 : (st s b).bind pE = (st s b).bind fun t => (pNs 4 t).bind fun p => (pX p.2).bind fun u => (pG u.2).bind fun r => some (mkEv p.1 u.1 r.1, r.2) := by
    refine congrArg _ (funext fun t => ?_)
    simp only [pE, pX, pG, Option.bind_assoc]
  rw [e0]
  refine Eq.trans ?_ (e1.trans (e2.trans (e3.trans (by rw [← h3])))).symm
  cases b3 <;> rfl
theorem sealed_iff {s : List UInt8} (h : 5 ≤ s.length) : (s.take (s.length - 2) ++ twoB (ckV (s.take (s.length - 2))) = s) ↔ numB s (s.length - 2) = ckV (s.take (s.length - 2)) := by
  have e := split2 (s := s) (n := s.length - 2) (by omega)
  have r := ckV_rng (s.take (s.length - 2))
  have b1 := byt_rng s (s.length - 2)
  have b2 := byt_rng s (s.length - 2 + 1)
  constructor
  · intro hs
    have h2 : twoB (ckV (s.take (s.length - 2))) = twoB (numB s (s.length - 2)) := by
      rw [two_num]
      exact List.append_cancel_left (hs.trans e)
    have i1 := congrArg (fun l => (l.getD 0 0).toNat) h2
    have i2 := congrArg (fun l => (l.getD 1 0).toNat) h2
    simp only [twoB, List.getD_cons_zero, List.getD_cons_succ, UInt8.toNat_ofNat'] at i1 i2
    unfold numB at *
    omega
  · intro hk
    rw [← hk, two_num]
    exact e.symm
theorem free_int0 (k : IntKind) (z : Int) : FreeSV (.int k z) := fun w E σ σ' v h => by cases h; exact .int
theorem fconfigF_s (S : List UInt8) (a0 : Nat) (ha0 : a0 ≤ S.length) (hS : S.length ≤ 1000000) :
    OSpec Try.prog 109 [.ptr 0 0] [.fix 142 [.str S, .int .i64 (a0 : Int), .ff]] fun v ho => ∃ (c : Cf) (a' : Nat) (b' : Bool), v = .agg (cfC c) ∧ ho = [rfB S a' b'] ∧ tg c (S.drop a') b' = (st (S.drop a0) false).bind pC ∧ a' ≤ S.length ∧ c.rs.length ≤ 1000001 :=
  ((fconfig_s S a0 false ha0 hS).pre (.one (.fix (.cons (.refl _) (.cons (.refl _) (.cons .ff .nil))))) (fun b hb => by
    simp at hb; subst hb
    intro x hx
    simp at hx
    rcases hx with rfl | rfl | rfl
    · exact free_str S
    · exact free_int0 _ _
    · exact free_ff)).mono fun v ho ⟨c, s', b', ⟨h1, h2, h3⟩, h4, h5⟩ => ⟨c, s', b', h4, h5, h1, h2, h3⟩
theorem ftextE_s (S : List UInt8) (a0 : Nat) (b : Bool) (ha0 : a0 ≤ S.length) (hS : S.length ≤ 1000000) :
    OSpec Try.prog 111 [.ptr 0 0] [rfB S a0 b] fun v ho => ∃ (z : List UInt8) (a' : Nat) (b' : Bool), v = .str z ∧ ho = [rfB S a' b'] ∧ tg z (S.drop a') b' = (st (S.drop a0) b).bind pX ∧ a0 ≤ a' ∧ a' ≤ S.length ∧ z.length ≤ S.length :=
  (ftext_s S a0 b ha0 hS).mono fun v ho ⟨z, a', b', ⟨h1, h2, h3, h4⟩, h5, h6⟩ => ⟨z, a', b', h5, h6, h1, h2, h3, h4⟩
theorem fflagsE_s (S : List UInt8) (a0 : Nat) (b : Bool) (ha0 : a0 ≤ S.length) (hS : S.length ≤ 1000000) :
    OSpec Try.prog 112 [.ptr 0 0] [rfB S a0 b] fun v ho => ∃ (z : List Bool) (a' : Nat) (b' : Bool), v = .rs 1 (z.map blE) ∧ ho = [rfB S a' b'] ∧ tg z (S.drop a') b' = (st (S.drop a0) b).bind pG ∧ a0 ≤ a' ∧ a' ≤ S.length ∧ z.length ≤ S.length :=
  (fflags_s S a0 b ha0 hS).mono fun v ho ⟨z, a', b', ⟨h1, h2, h3, h4⟩, h5, h6⟩ => ⟨z, a', b', h5, h6, h1, h2, h3, h4⟩
theorem ok_t {c : Cf} {l : List Ev} (hk : (cfOk c && evsOk l) = true) (z : Ev) : (cfOk c && evsOk (l ++ [z])) = evOk z := by
  rw [Bool.and_eq_true] at hk
  unfold evsOk at *
  rw [List.all_append, hk.1, hk.2]; simp
theorem ok_f {c : Cf} {l : List Ev} (hk : (cfOk c && evsOk l) = false) (z : Ev) : (cfOk c && evsOk (l ++ [z])) = false := by
  unfold evsOk at *
  rw [List.all_append, ← Bool.and_assoc, hk, Bool.false_and]
theorem revvM_s (k a b c : Int) (s : List UInt8) (fl : List Bool) : PSpec Try.prog 47 [.agg [.int .i64 k, .int .i64 a, .int .i64 b, .int .i64 c, .str s, .rs 1 (fl.map blE)]] (· = .bool (evOk ⟨k, a, b, c, s, fl⟩)) := revv_s ⟨k, a, b, c, s, fl⟩
def decX (s : List UInt8) (v : SV) : Prop := ∃ (c : Cf) (l : List Ev) (e : Int) (X Y : SV), v = .tup [.agg (cf14 c ++ [X]), Y, .int .i64 e] ∧ SLe X (.rs 2 (c.rs.map rtE)) ∧ SLe Y (.rs 6 (l.map evE)) ∧ decR s = (c, l, e)
theorem decX_e {s : List UInt8} {e : Int} (h : decR s = (c0, [], e)) (he : e ≠ 0) : decR s = (c0, [], e) := h
theorem decX_o {s : List UInt8} {c : Cf} {l : List Ev} (h : decR s = (c, l, 0)) : decR s = (c, l, 0) := h
def cut2 (s : List UInt8) : List UInt8 := List.drop (0 : Int).toNat (List.take (IntKind.i64.wrap ((s.length : Int) - 2)).toNat s)
theorem bad_up {α : Type} {z : α} {s s1 : List UInt8} {b b1 : Bool} {p : List UInt8 → Option (α × List UInt8)} (h : tg z s1 b1 = (st s b).bind p) (hq : b1 = false) : b = false := by
  cases b with
  | false => rfl
  | true => rw [hq] at h; simp at h
set_option maxRecDepth 100000 in
set_option maxHeartbeats 8000000 in
theorem rdecodeW_s (s : List UInt8) (hs : s.length ≤ 9223372036854775807) : PSpec Try.prog 94 [.str s] (decX s) := by
  refine .of_codeF tab_ok Try.func94 (by rfl) rfl trivial ?_
  conv => whnf
  refine ⟨fun ha => ?_, fun ha => ?_⟩
  · have ha : 262144 < s.length := by simp only [decide_eq_true_eq] at ha; omega
    conv => whnf
    exact ⟨c0, [], 4, _, _, rfl, .nil, .nil, decX_e (dec_a ha) (by omega)⟩
  · have ha : s.length ≤ 262144 := by simp only [decide_eq_false_iff_not] at ha; omega
    conv => whnf
    refine ⟨fun hb => ?_, fun hb => ?_⟩
    · have hb : s.length < 5 := by simp only [decide_eq_true_eq] at hb; omega
      conv => whnf
      exact ⟨c0, [], 9, _, _, rfl, .nil, .nil, decX_e (dec_b hb) (by omega)⟩
    · have hb : 5 ≤ s.length := by simp only [decide_eq_false_iff_not] at hb; omega
      conv => whnf
      refine ⟨by omega, ?_⟩
      conv => whnf
      refine ⟨fun hc => ?_, fun hc => ?_⟩
      · have hc : ¬ s.take 3 = [65, 83, 1] := by simpa using hc
        conv => whnf
        exact ⟨c0, [], 11, _, _, rfl, .nil, .nil, decX_e (dec_c ha hb hc) (by omega)⟩
      · have hc : s.take 3 = [65, 83, 1] := by simpa using hc
        have en : IntKind.i64.wrap ((s.length : Int) - 2) = ((s.length - 2 : Nat) : Int) := by rw [w64 _ (by omega) (by omega)]; omega
        have e1 : (IntKind.i64.wrap ((s.length : Int) - 2)).toNat = s.length - 2 := by rw [en, Int.toNat_natCast]
        conv => whnf
        refine ⟨by omega, ?_⟩
        conv => whnf
        refine (sealed_s _ (by first | omega | (simp only [List.length_drop, List.length_take]; omega) | (simp only [List.length_drop, List.length_take] at *; omega) | assumption | decide | simp)).call ?_
        rintro _ rfl
        conv => whnf
        refine ⟨fun hh10 => ?_, fun hh10 => ?_⟩
        · simp only [decide_eq_true_eq, decide_eq_false_iff_not, Bool.not_eq_true, Bool.not_eq_false, Bool.not_eq_true', Bool.not_eq_false', Bool.and_eq_true, Bool.and_eq_false_iff, Int.not_lt, Int.not_le, Decidable.not_not, beq_iff_eq, Bool.not_eq_eq_eq_not, Bool.not_true, Bool.not_false, beq_eq_false_iff_ne, ne_eq, decide_eq_decide] at hh10
          conv => whnf
          (rw [e1] at hh10; exact ⟨c0, [], 10, _, _, rfl, .nil, .nil, decX_e (dec_d ha hb hc (fun q => hh10 ((sealed_iff hb).2 q))) (by omega)⟩)
        · simp only [decide_eq_true_eq, decide_eq_false_iff_not, Bool.not_eq_true, Bool.not_eq_false, Bool.not_eq_true', Bool.not_eq_false', Bool.and_eq_true, Bool.and_eq_false_iff, Int.not_lt, Int.not_le, Decidable.not_not, beq_iff_eq, Bool.not_eq_eq_eq_not, Bool.not_true, Bool.not_false, beq_eq_false_iff_ne, ne_eq, decide_eq_decide] at hh10
          conv => whnf
          refine ⟨by omega, ?_⟩
          conv => whnf
          refine (fconfigF_s _ _ (by first | omega | (simp only [List.length_drop, List.length_take]; omega) | (simp only [List.length_drop, List.length_take] at *; omega) | assumption | decide | simp) (by first | omega | (simp only [List.length_drop, List.length_take]; omega) | (simp only [List.length_drop, List.length_take] at *; omega) | assumption | decide | simp)).call [1] (by decide) trivial (And.intro rfl trivial) ?_
          rintro _ _ ⟨cc, ca, cb, rfl, rfl, g15, g16, g17⟩
          conv => whnf
          refine (fnumE_s _ _ _ (by first | omega | (simp only [List.length_drop, List.length_take]; omega) | (simp only [List.length_drop, List.length_take] at *; omega) | assumption | decide | simp) (by first | omega | (simp only [List.length_drop, List.length_take]; omega) | (simp only [List.length_drop, List.length_take] at *; omega) | assumption | decide | simp)).call [1] (by decide) trivial (And.intro rfl trivial) ?_
          rintro _ _ ⟨nn, na, nb, rfl, rfl, g25, g26, g27, g28⟩
          conv => whnf
          refine (rcfv_s _ (by first | omega | (simp only [List.length_drop, List.length_take]; omega) | (simp only [List.length_drop, List.length_take] at *; omega) | assumption | decide | simp)).call ?_
          rintro _ rfl
          conv => whnf
          -- LOOP m=0 F=[SV.str s, SV.undef, SV.ptr 0 0, SV.nils, SV.int IntKind.i64 0, SV.ptr 1 0, SV.ptr 2 0, SV.int IntKind.i64 ↑nn, SV.bool (cfOk cc), SV.nils, SV.int IntKind.i64 0, SV.undef, SV.ff, SV.str s, SV.int IntKind.i64 ↑s.length, SV.bool (decide (262144 < ↑s.length)), SV.undef, SV.ff, SV.str s, SV.int IntKind.i64 ↑s.length, SV.bool (decide (↑s.length < 5)), SV.undef, SV.ff, SV.str s, SV.str (List.drop (↑0).toNat (List.take (Int.toNat 3) s)), SV.bool !decide (List.drop (↑0).toNat (List.take (Int.toNat 3) s) = { data := #[65, 83, 1] }.data.toList), SV.undef, SV.ff, SV.str s, SV.str s, SV.int IntKind.i64 ↑s.length, SV.int IntKind.i64 (IntKind.i64.wrap (↑s.length - 2)), SV.str (List.drop (↑0).toNat (List.take (IntKind.i64.wrap (↑s.length - 2)).toNat s)), SV.str (List.drop (↑0).toNat (List.take (IntKind.i64.wrap (↑s.length - 2)).toNat s) ++ twoB (ckV (List.drop (↑0).toNat (List.take (IntKind.i64.wrap (↑s.length - 2)).toNat s)))), SV.str s, SV.bool !decide (List.drop (↑0).toNat (List.take (IntKind.i64.wrap (↑s.length - 2)).toNat s) ++ twoB (ckV (List.drop (↑0).toNat (List.take (IntKind.i64.wrap (↑s.length - 2)).toNat s))) = s), SV.undef, SV.str s, SV.str s, SV.int IntKind.i64 ↑s.length, SV.int IntKind.i64 (IntKind.i64.wrap (↑s.length - 2)), SV.str (List.drop (↑0).toNat (List.take (IntKind.i64.wrap (↑s.length - 2)).toNat s)), SV.agg [SV.str (List.drop (↑0).toNat (List.take (IntKind.i64.wrap (↑s.length - 2)).toNat s)), SV.int IntKind.i64 3, SV.ff], SV.ptr 1 0, SV.ptr 1 0, SV.agg (cfC cc), SV.ptr 1 0, SV.int IntKind.i64 ↑nn, SV.agg [SV.int IntKind.i64 cc.mo, ⋯], SV.bool (cfOk cc), SV.undef, ⋯] heap=[(0, Blk.fix 71 [SV.int IntKind.i64 0, SV.int IntKind.i64 0, SV.int IntKind.i64 0, SV.int IntKind.i64 0, SV.int IntKind.i64 0, SV.int IntKind.i64 0, SV.int IntKind.i64 0, SV.int IntKind.i64 0, SV.int IntKind.i64 0, SV.int IntKind.i64 0, SV.int IntKind.i64 0, SV.int IntKind.i64 0, SV.int IntKind.i64 0, SV.int IntKind.i64 0, SV.nils]).snd, rfB (List.drop (↑0).toNat (List.take (IntKind.i64.wrap (↑s.length - 2)).toNat s)) na nb, (2, Blk.fix 71 [SV.int IntKind.i64 cc.mo, SV.int IntKind.i64 cc.an, SV.int IntKind.i64 cc.ad, SV.int IntKind.i64 cc.pk, SV.int IntKind.i64 cc.pq, SV.int IntKind.i64 cc.pn, SV.int IntKind.i64 cc.cp, SV.int IntKind.i64 cc.cb, SV.int IntKind.i64 cc.ca, SV.int IntKind.i64 cc.tr, SV.int IntKind.i64 cc.wi, SV.int IntKind.i64 cc.qu, SV.int IntKind.i64 cc.cy, SV.int IntKind.i64 cc.re, SV.rs 2 (List.map rtE cc.rs)]).snd]
          have hck : numB s (s.length - 2) = ckV (s.take (s.length - 2)) := (sealed_iff hb).1 (by rw [e1] at hh10; exact hh10)
          have hD := dec_e ha hb hc hck
          have hcut : cut2 s = s.take (s.length - 2) := by unfold cut2; rw [e1]; rfl
          have hbd : bdy s = (cut2 s).drop 3 := by rw [hcut]; rfl
          have hL : (cut2 s).length ≤ 262144 := by rw [hcut, List.length_take]; omega
          have g15 : tg cc ((cut2 s).drop ca) cb = (st (bdy s) false).bind pC := by rw [hbd]; exact g15
          have g25 : tg nn ((cut2 s).drop na) nb = (st ((cut2 s).drop ca) cb).bind pN := g25
          have g27 : na ≤ (cut2 s).length := g27
          obtain ⟨N, hN⟩ : ∃ N, N = (cut2 s).length - na := ⟨_, rfl⟩
          have hNl : N ≤ 262144 := by omega
          refine LoopG.inv tab_ok 118 (fun x : { x : Nat × List Ev × Nat × Bool // x.1 ≤ nn ∧ x.2.2.1 ≤ (cut2 s).length ∧ x.2.1.length ≤ 1000001 ∧ (x.2.2.2 = false → x.2.1.length + ((cut2 s).length - x.2.2.1) ≤ N) ∧ (st ((cut2 s).drop na) nb).bind (pV nn) = ((st ((cut2 s).drop x.2.2.1) x.2.2.2).bind fun t => (pV (nn - x.1) t).bind fun r => some (x.2.1 ++ r.1, r.2)) } => [(2, .ptr 0 0), (5, .ptr 1 0), (6, .ptr 2 0), (7, .int .i64 (nn : Int)), (8, .bool (cfOk cc && evsOk x.1.2.1)), (9, .sl 3), (10, .int .i64 (x.1.1 : Int))])
            (fun x => [.fix 71 [.int .i64 0, .int .i64 0, .int .i64 0, .int .i64 0, .int .i64 0, .int .i64 0, .int .i64 0, .int .i64 0, .int .i64 0, .int .i64 0, .int .i64 0, .int .i64 0, .int .i64 0, .int .i64 0, .nils], rfB (cut2 s) x.1.2.2.1 x.1.2.2.2, .fix 71 (cfC cc), .row 74 6 (x.1.2.1.map evE)]) (fun x => nn - x.1.1) ⟨(0, [], na, nb), by omega, by show na ≤ (cut2 s).length; omega, by simp, by intro _; show 0 + ((cut2 s).length - na) ≤ N; omega, pV_nil _ _ _⟩ (.of [some 0, some 1, some 2, none] (by rfl) ?_) ?_
          · conv => whnf
            refine ⟨by rfl, ?_⟩
            conv => whnf
            refine ⟨by (exact (Bool.and_true _).symm), ?_⟩
            conv => whnf
            refine ⟨by rfl, ?_⟩
            conv => whnf
            refine ⟨by rfl, ?_⟩
            conv => whnf
            refine ⟨by rfl, ?_⟩
            conv => whnf
            refine ⟨by rfl, ?_⟩
            conv => whnf
            refine ⟨by rfl, ?_⟩
            conv => whnf
            refine ⟨by rfl, ?_⟩
            conv => whnf
            refine ⟨by rfl, ?_⟩
            conv => whnf
            refine ⟨by rfl, ?_⟩
            conv => whnf
            refine ⟨by rfl, ?_⟩
            conv => whnf
            refine ⟨by rfl, ?_⟩
            conv => whnf
            refine ⟨by rfl, ?_⟩
            conv => whnf
            refine ⟨by rfl, ?_⟩
            conv => whnf
            refine ⟨by rfl, ?_⟩
            conv => whnf
            refine ⟨by rfl, ?_⟩
            conv => whnf
            refine ⟨by rfl, ?_⟩
            conv => whnf
            refine ⟨by rfl, ?_⟩
            conv => whnf
            refine ⟨by rfl, ?_⟩
            conv => whnf
            refine ⟨by rfl, ?_⟩
            conv => whnf
            refine ⟨by rfl, ?_⟩
            conv => whnf
            refine ⟨by rfl, ?_⟩
            conv => whnf
            refine ⟨by rfl, ?_⟩
            conv => whnf
            refine ⟨by rfl, ?_⟩
            conv => whnf
            refine ⟨by rfl, ?_⟩
            conv => whnf
            refine ⟨by rfl, ?_⟩
            conv => whnf
            refine ⟨by rfl, ?_⟩
            conv => whnf
            refine ⟨by rfl, ?_⟩
            conv => whnf
            refine ⟨by rfl, ?_⟩
            conv => whnf
            refine ⟨by rfl, ?_⟩
            conv => whnf
            refine ⟨by rfl, ?_⟩
            conv => whnf
            refine ⟨by rfl, ?_⟩
            conv => whnf
            refine ⟨by rfl, ?_⟩
            conv => whnf
            refine ⟨by rfl, ?_⟩
            conv => whnf
            refine ⟨by rfl, ?_⟩
            conv => whnf
            refine ⟨by rfl, ?_⟩
            conv => whnf
            exact trivial
          · intro x
            obtain ⟨⟨i, l, a, bb⟩, h1, h2, h3, h4, h5⟩ := x
            have h1 : i ≤ nn := h1
            have h2 : a ≤ (cut2 s).length := h2
            have h3 : l.length ≤ 1000001 := h3
            have h4 : bb = false → l.length + ((cut2 s).length - a) ≤ N := h4
            have hmr : (l.map evE).length = l.length := List.length_map ..
            have hfin : nn - i = 0 ∨ bb = true → tg (cc, l) ((cut2 s).drop a) bb = pD (bdy s) := fun hq => pD_fin g15 g25 ((pV_end hq).symm.trans h5.symm)
            have hnx : ∀ (z : Ev) (a1 : Nat) (b1 : Bool), i < nn → tg z ((cut2 s).drop a1) b1 = (st ((cut2 s).drop a) bb).bind pE → (st ((cut2 s).drop na) nb).bind (pV nn) = ((st ((cut2 s).drop a1) b1).bind fun t' => (pV (nn - (i + 1)) t').bind fun r => some ((l ++ [z]) ++ r.1, r.2)) := fun z a1 b1 hn hz => by
              obtain ⟨m, hm⟩ : ∃ m, nn - i = m + 1 := ⟨nn - i - 1, by omega⟩
              have hm2 : nn - (i + 1) = m := by omega
              rw [hm2]
              exact h5.trans (by dsimp only; rw [hm]; exact pV_step hz)
            have fin2 : (nn - i = 0 ∨ bb = true) → bb = true ∨ ¬ a = (cut2 s).length → decR s = (c0, [], 11) := fun hq hr => by
              have hf := hfin hq
              refine hD.trans ?_
              cases bb with
              | true => exact body_n hf.symm
              | false =>
                rcases hr with hr | hr
                · cases hr
                · exact body_r hf.symm (fun q => hr (by have := congrArg List.length q; simp only [List.length_drop, List.length_nil] at this; omega))
            have fin3 : nn - i = 0 ∨ bb = true → bb = false → a = (cut2 s).length → pD (bdy s) = some ((cc, l), []) := fun hq h6 h7 => by
              have hf := hfin hq
              rw [h6, h7, List.drop_length] at hf
              exact hf.symm
            conv => whnf
            refine ⟨fun hh0 => ?_, fun hh0 => ?_⟩
            · have hi : i < nn := by simp only [decide_eq_true_eq] at hh0; omega
              conv => whnf
              refine ⟨fun hh1 => ?_, fun hh1 => ?_⟩
              · have hb0 : bb = false := by simpa using hh1
                have h40 := h4 hb0
                conv => whnf
                refine (fnumE_s _ _ _ (by first | omega | (dsimp only at *; omega) | assumption | decide | simp) (by first | omega | (dsimp only at *; omega) | assumption | decide | simp)).call [1] (by decide) trivial (And.intro rfl trivial) ?_
                rintro _ _ ⟨u0, u1, u2, rfl, rfl, g3, g4, g5, g6⟩
                conv => whnf
                refine (fnumE_s _ _ _ (by first | omega | (dsimp only at *; omega) | assumption | decide | simp) (by first | omega | (dsimp only at *; omega) | assumption | decide | simp)).call [1] (by decide) trivial (And.intro rfl trivial) ?_
                rintro _ _ ⟨u10, u11, u12, rfl, rfl, g13, g14, g15, g16⟩
                conv => whnf
                refine (fnumE_s _ _ _ (by first | omega | (dsimp only at *; omega) | assumption | decide | simp) (by first | omega | (dsimp only at *; omega) | assumption | decide | simp)).call [1] (by decide) trivial (And.intro rfl trivial) ?_
                rintro _ _ ⟨u20, u21, u22, rfl, rfl, g23, g24, g25, g26⟩
                conv => whnf
                refine (fnumE_s _ _ _ (by first | omega | (dsimp only at *; omega) | assumption | decide | simp) (by first | omega | (dsimp only at *; omega) | assumption | decide | simp)).call [1] (by decide) trivial (And.intro rfl trivial) ?_
                rintro _ _ ⟨u30, u31, u32, rfl, rfl, g33, g34, g35, g36⟩
                conv => whnf
                refine (ftextE_s _ _ _ (by first | omega | (dsimp only at *; omega) | assumption | decide | simp) (by first | omega | (dsimp only at *; omega) | assumption | decide | simp)).call [1] (by decide) trivial (And.intro rfl trivial) ?_
                rintro _ _ ⟨u40, u41, u42, rfl, rfl, g43, g44, g45, g46⟩
                conv => whnf
                refine (fflagsE_s _ _ _ (by first | omega | (dsimp only at *; omega) | assumption | decide | simp) (by first | omega | (dsimp only at *; omega) | assumption | decide | simp)).call [1] (by decide) trivial (And.intro rfl trivial) ?_
                rintro _ _ ⟨u50, u51, u52, rfl, rfl, g53, g54, g55, g56⟩
                conv => whnf
                refine ⟨fun hh60 => ?_, fun hh60 => ?_⟩
                · simp only [decide_eq_true_eq, decide_eq_false_iff_not] at hh60
                  conv => whnf
                  refine (revvM_s _ _ _ _ _ _).call ?_
                  rintro _ rfl
                  conv => whnf
                  refine ⟨by simp; omega, ?_⟩
                  conv => whnf
                  have hns : tg [u0, u10, u20, u30] ((cut2 s).drop u31) u32 = (st ((cut2 s).drop a) bb).bind (pNs 4) := pNs_cons g3 (pNs_cons g13 (pNs_cons g23 (pNs_cons g33 (pNs_nil _ _))))
                  have hev := pE_g hns g43 g53
                  have hlt : u52 = false → a < u51 := fun hq => by
                    have q1 := bad_up g13 (bad_up g23 (bad_up g33 (bad_up g43 (bad_up g53 hq))))
                    rcases pN_lt g3 with q2 | q2
                    · rw [q1] at q2; cases q2
                    · simp only [List.length_drop] at q2; omega
                  have hok1 : (cfOk cc && evsOk l) = true → (cfOk cc && evsOk (l ++ [mkEv [u0, u10, u20, u30] u40 u50])) = evOk (mkEv [u0, u10, u20, u30] u40 u50) := fun hk => ok_t hk _
                  have hok2 : (cfOk cc && evsOk l) = false → (cfOk cc && evsOk (l ++ [mkEv [u0, u10, u20, u30] u40 u50])) = false := fun hk => ok_f hk _
                  (dsimp only at *; refine ⟨⟨(i + 1, l ++ [mkEv [u0, u10, u20, u30] u40 u50], u51, u52), by show i + 1 ≤ nn; omega, by show u51 ≤ (cut2 s).length; omega, by rw [List.length_append]; simp only [List.length_cons, List.length_nil]; omega, fun hq => by rw [List.length_append]; have := hlt hq; simp only [List.length_cons, List.length_nil]; omega, hnx _ _ _ hi hev⟩, by show nn - (i + 1) < nn - i; omega, .of [some 0, some 1, some 2, some 6] (by rfl) ?_⟩)
                  conv => whnf
                  refine ⟨by rfl, ?_⟩
                  conv => whnf
                  refine ⟨by (exact (hok1 hh60).symm), ?_⟩
                  conv => whnf
                  refine ⟨by exact (w64 _ (by omega) (by omega)).trans (by simp), ?_⟩
                  conv => whnf
                  refine ⟨by rfl, ?_⟩
                  conv => whnf
                  refine ⟨by rfl, ?_⟩
                  conv => whnf
                  refine ⟨by rfl, ?_⟩
                  conv => whnf
                  refine ⟨by rfl, ?_⟩
                  conv => whnf
                  refine ⟨by rfl, ?_⟩
                  conv => whnf
                  refine ⟨by rfl, ?_⟩
                  conv => whnf
                  refine ⟨by rfl, ?_⟩
                  conv => whnf
                  refine ⟨by rfl, ?_⟩
                  conv => whnf
                  refine ⟨by rfl, ?_⟩
                  conv => whnf
                  refine ⟨by rfl, ?_⟩
                  conv => whnf
                  refine ⟨by rfl, ?_⟩
                  conv => whnf
                  refine ⟨by rfl, ?_⟩
                  conv => whnf
                  refine ⟨by rfl, ?_⟩
                  conv => whnf
                  refine ⟨by rfl, ?_⟩
                  conv => whnf
                  refine ⟨by rfl, ?_⟩
                  conv => whnf
                  refine ⟨by rfl, ?_⟩
                  conv => whnf
                  refine ⟨by rfl, ?_⟩
                  conv => whnf
                  refine ⟨by rfl, ?_⟩
                  conv => whnf
                  refine ⟨by rfl, ?_⟩
                  conv => whnf
                  refine ⟨by rfl, ?_⟩
                  conv => whnf
                  refine ⟨by rfl, ?_⟩
                  conv => whnf
                  refine ⟨by rfl, ?_⟩
                  conv => whnf
                  refine ⟨by rfl, ?_⟩
                  conv => whnf
                  refine ⟨by rfl, ?_⟩
                  conv => whnf
                  refine ⟨by rfl, ?_⟩
                  conv => whnf
                  refine ⟨by rfl, ?_⟩
                  conv => whnf
                  refine ⟨by rfl, ?_⟩
                  conv => whnf
                  refine ⟨by rfl, ?_⟩
                  conv => whnf
                  refine ⟨by rfl, ?_⟩
                  conv => whnf
                  refine ⟨by rfl, ?_⟩
                  conv => whnf
                  refine ⟨by rfl, ?_⟩
                  conv => whnf
                  refine ⟨by rfl, ?_⟩
                  conv => whnf
                  refine ⟨by (exact (List.map_append (f := evE) (l₁ := l) (l₂ := [mkEv [u0, u10, u20, u30] u40 u50])).symm), ?_⟩
                  conv => whnf
                  exact trivial
                · simp only [decide_eq_true_eq, decide_eq_false_iff_not] at hh60
                  conv => whnf
                  refine ⟨by simp; omega, ?_⟩
                  conv => whnf
                  have hns : tg [u0, u10, u20, u30] ((cut2 s).drop u31) u32 = (st ((cut2 s).drop a) bb).bind (pNs 4) := pNs_cons g3 (pNs_cons g13 (pNs_cons g23 (pNs_cons g33 (pNs_nil _ _))))
                  have hev := pE_g hns g43 g53
                  have hlt : u52 = false → a < u51 := fun hq => by
                    have q1 := bad_up g13 (bad_up g23 (bad_up g33 (bad_up g43 (bad_up g53 hq))))
                    rcases pN_lt g3 with q2 | q2
                    · rw [q1] at q2; cases q2
                    · simp only [List.length_drop] at q2; omega
                  have hok1 : (cfOk cc && evsOk l) = true → (cfOk cc && evsOk (l ++ [mkEv [u0, u10, u20, u30] u40 u50])) = evOk (mkEv [u0, u10, u20, u30] u40 u50) := fun hk => ok_t hk _
                  have hok2 : (cfOk cc && evsOk l) = false → (cfOk cc && evsOk (l ++ [mkEv [u0, u10, u20, u30] u40 u50])) = false := fun hk => ok_f hk _
                  (dsimp only at *; refine ⟨⟨(i + 1, l ++ [mkEv [u0, u10, u20, u30] u40 u50], u51, u52), by show i + 1 ≤ nn; omega, by show u51 ≤ (cut2 s).length; omega, by rw [List.length_append]; simp only [List.length_cons, List.length_nil]; omega, fun hq => by rw [List.length_append]; have := hlt hq; simp only [List.length_cons, List.length_nil]; omega, hnx _ _ _ hi hev⟩, by show nn - (i + 1) < nn - i; omega, .of [some 0, some 1, some 2, some 6] (by rfl) ?_⟩)
                  conv => whnf
                  refine ⟨by rfl, ?_⟩
                  conv => whnf
                  refine ⟨by simp [*], ?_⟩
                  conv => whnf
                  refine ⟨by exact (w64 _ (by omega) (by omega)).trans (by simp), ?_⟩
                  conv => whnf
                  refine ⟨by rfl, ?_⟩
                  conv => whnf
                  refine ⟨by rfl, ?_⟩
                  conv => whnf
                  refine ⟨by rfl, ?_⟩
                  conv => whnf
                  refine ⟨by rfl, ?_⟩
                  conv => whnf
                  refine ⟨by rfl, ?_⟩
                  conv => whnf
                  refine ⟨by rfl, ?_⟩
                  conv => whnf
                  refine ⟨by rfl, ?_⟩
                  conv => whnf
                  refine ⟨by rfl, ?_⟩
                  conv => whnf
                  refine ⟨by rfl, ?_⟩
                  conv => whnf
                  refine ⟨by rfl, ?_⟩
                  conv => whnf
                  refine ⟨by rfl, ?_⟩
                  conv => whnf
                  refine ⟨by rfl, ?_⟩
                  conv => whnf
                  refine ⟨by rfl, ?_⟩
                  conv => whnf
                  refine ⟨by rfl, ?_⟩
                  conv => whnf
                  refine ⟨by rfl, ?_⟩
                  conv => whnf
                  refine ⟨by rfl, ?_⟩
                  conv => whnf
                  refine ⟨by rfl, ?_⟩
                  conv => whnf
                  refine ⟨by rfl, ?_⟩
                  conv => whnf
                  refine ⟨by rfl, ?_⟩
                  conv => whnf
                  refine ⟨by rfl, ?_⟩
                  conv => whnf
                  refine ⟨by rfl, ?_⟩
                  conv => whnf
                  refine ⟨by rfl, ?_⟩
                  conv => whnf
                  refine ⟨by rfl, ?_⟩
                  conv => whnf
                  refine ⟨by rfl, ?_⟩
                  conv => whnf
                  refine ⟨by rfl, ?_⟩
                  conv => whnf
                  refine ⟨by rfl, ?_⟩
                  conv => whnf
                  refine ⟨by rfl, ?_⟩
                  conv => whnf
                  refine ⟨by rfl, ?_⟩
                  conv => whnf
                  refine ⟨by rfl, ?_⟩
                  conv => whnf
                  refine ⟨by rfl, ?_⟩
                  conv => whnf
                  refine ⟨by rfl, ?_⟩
                  conv => whnf
                  refine ⟨by rfl, ?_⟩
                  conv => whnf
                  refine ⟨by (exact (List.map_append (f := evE) (l₁ := l) (l₂ := [mkEv [u0, u10, u20, u30] u40 u50])).symm), ?_⟩
                  conv => whnf
                  exact trivial
              · have hb1 : bb = true := by simpa using hh1
                conv => whnf
                refine .same ?_
                conv => whnf
                refine DrawG.of mixed tab_ok ?_
                conv => whnf
                refine both_t (by simp; omega) ?_
                conv => whnf
                refine ⟨by kernel_rfl, ?_⟩
                conv => whnf
                (dsimp only at *; exact ⟨c0, [], 11, _, _, rfl, .nil, .nil, decX_e (fin2 (.inr hb1) (.inl hb1)) (by omega)⟩)
            · have hi : i = nn := by simp only [decide_eq_false_iff_not] at hh0; omega
              have hn0 : nn - i = 0 := by omega
              conv => whnf
              refine .same ?_
              conv => whnf
              refine DrawG.of mixed tab_ok ?_
              conv => whnf
              refine ⟨fun hh0 => ?_, fun hh0 => ?_⟩
              · simp only [decide_eq_true_eq, decide_eq_false_iff_not] at hh0
                conv => whnf
                refine ⟨by kernel_rfl, ?_⟩
                conv => whnf
                (dsimp only at *; exact ⟨c0, [], 11, _, _, rfl, .nil, .nil, decX_e (fin2 (.inl hn0) (.inl hh0)) (by omega)⟩)
              · simp only [decide_eq_true_eq, decide_eq_false_iff_not] at hh0
                conv => whnf
                refine ⟨by kernel_rfl, ?_⟩
                conv => whnf
                refine ⟨fun hh2 => ?_, fun hh2 => ?_⟩
                · simp only [decide_eq_true_eq, decide_eq_false_iff_not] at hh2
                  conv => whnf
                  (dsimp only at *; exact ⟨c0, [], 11, _, _, rfl, .nil, .nil, decX_e (fin2 (.inl hn0) (.inr (by omega))) (by omega)⟩)
                · simp only [decide_eq_true_eq, decide_eq_false_iff_not] at hh2
                  conv => whnf
                  refine ⟨fun hh4 => ?_, fun hh4 => ?_⟩
                  · simp only [decide_eq_true_eq, decide_eq_false_iff_not] at hh4
                    conv => whnf
                    (dsimp only at *; exact ⟨c0, [], 1, _, _, rfl, .nil, .nil, decX_e (hD.trans (body_i (fin3 (.inl hn0) hh0 (by omega)) (by simpa only [Bool.not_eq_true'] using hh4))) (by omega)⟩)
                  · simp only [decide_eq_true_eq, decide_eq_false_iff_not] at hh4
                    conv => whnf
                    refine ⟨fun hh6 => ?_, fun hh6 => ?_⟩
                    · simp only [decide_eq_true_eq, decide_eq_false_iff_not] at hh6
                      conv => whnf
                      (dsimp only at *; exact ⟨c0, [], 4, _, _, rfl, .nil, .nil, decX_e (hD.trans (body_f (fin3 (.inl hn0) hh0 (by omega)) (by simpa using hh4) (by rw [← hmr]; omega))) (by omega)⟩)
                    · simp only [decide_eq_true_eq, decide_eq_false_iff_not] at hh6
                      conv => whnf
                      (dsimp only at *; exact ⟨cc, l, 0, _, _, rfl, .refl _, .refl _, decX_o (hD.trans (body_o (fin3 (.inl hn0) hh0 (by omega)) (by simpa using hh4) (by rw [← hmr]; omega)))⟩)
theorem rdecode_s (s : List UInt8) (hs : s.length ≤ 9223372036854775807) : PSpec Try.prog 94 [.str s] (· = .tup [cfE (decR s).1, .rs 6 ((decR s).2.1.map evE), .int .i64 (decR s).2.2]) := by
  refine (rdecodeW_s s hs).weak ?_
  rintro v ⟨c, l, e, X, Y, rfl, h2, h3, h4⟩
  refine ⟨_, rfl, ?_⟩
  rw [h4]
  exact .tup (.cons (.agg (.app (a := cf14 c) (a' := cf14 c) (.refl _) (.cons h2 .nil))) (.cons h3 (.cons (.refl _) .nil)))
end Go.Proofs.Ytdommpfnoiemkaa

/- Chapter 27: what is encoded is read back, what is read is encoded; plain Lean. -/
namespace Go.Proofs.Ytdommpfnoiemkaa
open Go.Sx
set_option linter.unusedSimpArgs false
set_option linter.unusedVariables false
theorem k8 {n k v : Nat} (hn : 0 < k → 1 ≤ n) (h : v + n * 128 ^ k ≤ 4611686018427387904) : k ≤ 8 := by
  by_cases hk : k ≤ 8
  · exact hk
  · exfalso
    have h1 : 128 ^ 9 ≤ 128 ^ k := Nat.pow_le_pow_right (by omega) (by omega)
    have h2 : 1 * 128 ^ k ≤ n * 128 ^ k := Nat.mul_le_mul_right _ (hn (by omega))
    omega
theorem u8nat {n : Nat} (h : n < 256) : (UInt8.ofNat n).toNat = n := by
  rw [UInt8.toNat_ofNat']; omega
theorem rNk_enc : ∀ (m n : Nat), n ≤ m → ∀ (k v : Nat) (r : List UInt8), (0 < k → 1 ≤ n) → v + n * 128 ^ k ≤ 4611686018427387904 → rNk k v (encN n ++ r) = (v + n * 128 ^ k, r, false) := by
  intro m
  induction m with
  | zero =>
    intro n hm k v r hn h
    have hk := k8 hn h
    have h0 : n = 0 := by omega
    subst h0
    rw [encN_lt (by omega)]
    have e : (UInt8.ofNat 0).toNat = 0 := rfl
    have hk0 : k = 0 := by rcases Nat.eq_zero_or_pos k with q | q; exact q; have := hn q; omega
    rw [List.singleton_append, rb3 (by rw [e]; omega) (by rw [e]; omega) (by rw [e]; omega), e]
  | succ m ih =>
    intro n hm k v r hn h
    have hk := k8 hn h
    by_cases hl : n < 128
    · rw [encN_lt hl]
      have e : (UInt8.ofNat n).toNat = n := u8nat (by omega)
      rw [List.singleton_append, rb3 (by rw [e]; omega) (by rw [e]; omega) (by rw [e]; omega), e]
    · have e : (UInt8.ofNat (n % 128 + 128)).toNat = n % 128 + 128 := u8nat (by omega)
      have hs : n * 128 ^ k = n % 128 * 128 ^ k + n / 128 * 128 ^ (k + 1) := by
        rw [Nat.pow_succ]
        have : n = n % 128 + 128 * (n / 128) := (Nat.mod_add_div n 128).symm
        calc n * 128 ^ k = (n % 128 + 128 * (n / 128)) * 128 ^ k := by rw [← this]
          _ = _ := by grind
      rw [encN_ge (by omega), List.cons_append, rb4 (by rw [e]; omega) (by rw [e]; omega), e, show n % 128 + 128 - 128 = n % 128 from by omega, ih (n / 128) (by omega) (k + 1) _ r (by omega) (by omega)]
      rw [hs, Nat.add_assoc]
theorem pN_enc {n : Nat} (h : n ≤ 4611686018427387904) (r : List UInt8) : pN (encN n ++ r) = some (n, r) := by
  unfold pN
  rw [rNk_enc n n (Nat.le_refl _) 0 0 r (by omega) (by omega)]
  simp
theorem rNk_inv : ∀ (s : List UInt8) (k v z : Nat) (r : List UInt8), rNk k v s = (z, r, false) → ∃ n, s = encN n ++ r ∧ z = v + n * 128 ^ k ∧ (0 < k → 1 ≤ n) := by
  intro s
  induction s with
  | nil => intro k v z r h; simp [rNk] at h
  | cons x t ih =>
    intro k v z r h
    by_cases h1 : 8 < k ∨ 0 < k ∧ x.toNat = 0
    · rw [rb1 h1] at h; simp at h
    · by_cases h2 : x.toNat < 128
      · by_cases h3 : 4611686018427387904 < v + x.toNat * 128 ^ k
        · rw [rb2 h1 h2 h3] at h; simp at h
        · rw [rb3 h1 h2 h3] at h
          simp only [Prod.mk.injEq, and_true] at h
          refine ⟨x.toNat, ?_, h.1.symm, by omega⟩
          rw [encN_lt h2, UInt8.ofNat_toNat, h.2]; rfl
      · rw [rb4 h1 h2] at h
        obtain ⟨n, e1, e2, e3⟩ := ih _ _ _ _ h
        have e3 := e3 (by omega)
        have hx := x.toNat_lt
        refine ⟨n * 128 + (x.toNat - 128), ?_, ?_, by omega⟩
        · rw [encN_ge (by omega), show (n * 128 + (x.toNat - 128)) % 128 + 128 = x.toNat from by omega, show (n * 128 + (x.toNat - 128)) / 128 = n from by omega, UInt8.ofNat_toNat, e1]; rfl
        · rw [e2, Nat.pow_succ]; grind
theorem pN_inv {s r : List UInt8} {n : Nat} (h : pN s = some (n, r)) : s = encN n ++ r := by
  unfold pN at h
  cases hb : (rNk 0 0 s).2.2 with
  | true => rw [hb] at h; simp at h
  | false =>
    rw [hb] at h
    simp only [tg_f, Option.some.injEq, Prod.mk.injEq] at h
    obtain ⟨m, e1, e2, _⟩ := rNk_inv s 0 0 n r (by rw [← h.1, ← h.2, ← hb])
    rw [e1, e2]; simp
theorem numsB_cons (z : Int) (l : List Int) : numsB (z :: l) = encN z.toNat ++ numsB l := by simp [numsB]
theorem pNs_enc : ∀ (l : List Int) (r : List UInt8), (∀ z ∈ l, 0 ≤ z ∧ z ≤ 1099511627776) → pNs l.length (numsB l ++ r) = some (l.map Int.toNat, r) := by
  intro l
  induction l with
  | nil => intro r _; rfl
  | cons z l ih =>
    intro r h
    have hz := h z (by simp)
    rw [numsB_cons, List.append_assoc, List.length_cons, pNs, pN_enc (by omega)]
    simp only [Option.bind_some]
    rw [ih r (fun y hy => h y (by simp [hy]))]
    rfl
theorem pNs_inv : ∀ (k : Nat) (s r : List UInt8) (l : List Nat), pNs k s = some (l, r) → l.length = k ∧ s = numsB (l.map Int.ofNat) ++ r := by
  intro k
  induction k with
  | zero => intro s r l h; simp [pNs] at h; rw [h.1, h.2]; exact ⟨rfl, rfl⟩
  | succ k ih =>
    intro s r l h
    simp only [pNs, Option.bind_eq_some_iff] at h
    obtain ⟨⟨n, t⟩, h1, ⟨m, u⟩, h2, h3⟩ := h
    simp only [Option.some.injEq, Prod.mk.injEq] at h3
    dsimp only at *
    obtain ⟨a, b⟩ := ih _ _ _ h2
    rw [← h3.1, ← h3.2, pN_inv h1, b, List.map_cons, numsB_cons, List.append_assoc]
    exact ⟨by simp [a], rfl⟩
theorem rtsB_cons (z : Int × Int) (l : List (Int × Int)) : rtsB (z :: l) = encN z.1.toNat ++ (encN z.2.toNat ++ rtsB l) := by simp [rtsB, rtB]
theorem pR_enc : ∀ (l : List (Int × Int)) (r : List UInt8), rsOk l = true → pR l.length (rtsB l ++ r) = some (l, r) := by
  intro l
  induction l with
  | nil => intro r _; rfl
  | cons z l ih =>
    intro r h
    unfold rsOk at h
    simp only [List.all_cons, Bool.and_eq_true, decide_eq_true_eq] at h
    obtain ⟨⟨a, b, c, d⟩, e⟩ := h
    rw [rtsB_cons, List.append_assoc, List.append_assoc, List.length_cons, pR, pN_enc (by omega)]
    simp only [Option.bind_some]
    rw [pN_enc (by omega)]
    simp only [Option.bind_some]
    rw [ih r e]
    simp only [Option.bind_some, Int.toNat_of_nonneg (show (0 : Int) ≤ z.1 by omega), Int.toNat_of_nonneg (show (0 : Int) ≤ z.2 by omega)]
theorem pR_inv : ∀ (k : Nat) (s r : List UInt8) (l : List (Int × Int)), pR k s = some (l, r) → l.length = k ∧ s = rtsB l ++ r := by
  intro k
  induction k with
  | zero => intro s r l h; simp [pR] at h; rw [h.1, h.2]; exact ⟨rfl, rfl⟩
  | succ k ih =>
    intro s r l h
    simp only [pR, Option.bind_eq_some_iff] at h
    obtain ⟨⟨n, t⟩, h1, ⟨m, u⟩, h2, ⟨l2, w⟩, h4, h3⟩ := h
    simp only [Option.some.injEq, Prod.mk.injEq] at h3
    dsimp only at *
    obtain ⟨a, b⟩ := ih _ _ _ h4
    rw [← h3.1, ← h3.2, pN_inv h1, pN_inv h2, b, rtsB_cons, List.append_assoc, List.append_assoc]
    exact ⟨by simp [a], by simp⟩
theorem fldL_len (c : Cf) : (fldL c).length = 14 := rfl
theorem mk_fld {c : Cf} (h : cfP0 c) : mkCf ((fldL c).map Int.toNat) c.rs = c := by
  have r := fld_rng h
  have g : ∀ z ∈ fldL c, ((z.toNat : Nat) : Int) = z := fun z hz => Int.toNat_of_nonneg (r z hz).1
  cases c
  simp only [fldL, List.mem_cons, List.mem_nil_iff, or_false, forall_eq_or_imp, forall_eq] at g
  obtain ⟨g1, g2, g3, g4, g5, g6, g7, g8, g9, g10, g11, g12, g13, g14⟩ := g
  simp only [mkCf, fldL, List.map_cons, List.map_nil, List.getD_cons_zero, List.getD_cons_succ, g1, g2, g3, g4, g5, g6, g7, g8, g9, g10, g11, g12, g13, g14]
theorem fld_mk {l : List Nat} (h : l.length = 14) (rs : List (Int × Int)) : fldL (mkCf l rs) = l.map Int.ofNat := by
  match l, h with
  | [a1, a2, a3, a4, a5, a6, a7, a8, a9, a10, a11, a12, a13, a14], _ => rfl
theorem pC_enc {c : Cf} (h : cfOk c = true) (r : List UInt8) : pC (numsB (fldL c) ++ (encN c.rs.length ++ (rtsB c.rs ++ r))) = some (c, r) := by
  obtain ⟨h0, h1⟩ := cfOk_of h
  have hl : c.rs.length ≤ 12 := h0.2.2.2.2.2.2.2.2.2.2.2.2.2.2.2.2
  unfold pC
  rw [show pNs 14 (numsB (fldL c) ++ (encN c.rs.length ++ (rtsB c.rs ++ r))) = _ from pNs_enc (fldL c) _ (fld_rng h0)]
  simp only [Option.bind_some]
  rw [pN_enc (by omega)]
  simp only [Option.bind_some]
  rw [pR_enc _ _ h1]
  simp only [Option.bind_some, mk_fld h0]
theorem pC_inv {s r : List UInt8} {c : Cf} (h : pC s = some (c, r)) : s = numsB (fldL c) ++ (encN c.rs.length ++ (rtsB c.rs ++ r)) := by
  unfold pC at h
  simp only [Option.bind_eq_some_iff] at h
  obtain ⟨⟨l, t⟩, h1, ⟨n, u⟩, h2, ⟨rs, w⟩, h3, h4⟩ := h
  simp only [Option.some.injEq, Prod.mk.injEq] at h4
  dsimp only at *
  obtain ⟨a, b⟩ := pNs_inv _ _ _ _ h1
  obtain ⟨d, e⟩ := pR_inv _ _ _ _ h3
  rw [← h4.1, ← h4.2, fld_mk a, b, pN_inv h2, e, show (mkCf l rs).rs = rs from rfl, d]
theorem pF_enc : ∀ (l : List Bool) (r : List UInt8), pF l.length (l.map flg ++ r) = some (l, r) := by
  intro l
  induction l with
  | nil => intro r; rfl
  | cons z l ih =>
    intro r
    have e : pB (flg z :: (l.map flg ++ r)) = some (z, l.map flg ++ r) := by
      cases z <;> rfl
    rw [List.length_cons, pF, List.map_cons, List.cons_append, e]
    simp only [Option.bind_some]
    rw [ih r]; rfl
theorem pB_inv {s r : List UInt8} {z : Bool} (h : pB s = some (z, r)) : s = flg z :: r := by
  unfold pB at h
  cases s with
  | nil => simp [rB] at h
  | cons x t =>
    by_cases h1 : 1 < x.toNat
    · rw [show rB (x :: t) false = (false, t, true) from by show (if 1 < x.toNat then _ else _) = _; rw [if_pos h1]] at h
      simp at h
    · rw [show rB (x :: t) false = (decide (x.toNat = 1), t, false) from by show (if 1 < x.toNat then _ else _) = _; rw [if_neg h1]] at h
      simp only [tg_f, Option.some.injEq, Prod.mk.injEq] at h
      rw [← h.1, h.2]
      have hx : x = UInt8.ofNat x.toNat := (UInt8.ofNat_toNat).symm
      by_cases h2 : x.toNat = 1
      · rw [decide_eq_true h2, hx, h2]; rfl
      · have h0 : x.toNat = 0 := by omega
        rw [decide_eq_false h2, hx, h0]; rfl
theorem pF_inv : ∀ (k : Nat) (s r : List UInt8) (l : List Bool), pF k s = some (l, r) → l.length = k ∧ s = l.map flg ++ r := by
  intro k
  induction k with
  | zero => intro s r l h; simp [pF] at h; rw [h.1, h.2]; exact ⟨rfl, rfl⟩
  | succ k ih =>
    intro s r l h
    simp only [pF, Option.bind_eq_some_iff] at h
    obtain ⟨⟨n, t⟩, h1, ⟨l2, w⟩, h4, h3⟩ := h
    simp only [Option.some.injEq, Prod.mk.injEq] at h3
    dsimp only at *
    obtain ⟨a, b⟩ := ih _ _ _ h4
    rw [← h3.1, ← h3.2, pB_inv h1, b]
    exact ⟨by simp [a], rfl⟩
theorem pT_enc (s r : List UInt8) : pT s.length (s ++ r) = some (s, r) := by
  unfold pT
  rw [if_neg (by simp)]; simp
theorem pT_inv {n : Nat} {s u r : List UInt8} (h : pT n s = some (u, r)) : u.length = n ∧ s = u ++ r := by
  unfold pT at h
  by_cases h1 : s.length < n
  · rw [if_pos h1] at h; simp at h
  · rw [if_neg h1] at h
    simp only [Option.some.injEq, Prod.mk.injEq] at h
    rw [← h.1, ← h.2]
    exact ⟨by rw [List.length_take]; omega, (List.take_append_drop n s).symm⟩
theorem evB_eq (e : Ev) (r : List UInt8) : evB e ++ r = numsB [e.k, e.a, e.b, e.c] ++ (encN e.s.length ++ (e.s ++ (encN e.fl.length ++ (e.fl.map flg ++ r)))) := by
  simp [evB, numsB]
theorem pE_enc {e : Ev} (h : evP e) (r : List UInt8) : pE (evB e ++ r) = some (e, r) := by
  obtain ⟨a1, a2, a3, a4, a5, a6, a7, a8, a9, a10⟩ := h
  unfold pE
  rw [evB_eq, show pNs 4 (numsB [e.k, e.a, e.b, e.c] ++ (encN e.s.length ++ (e.s ++ (encN e.fl.length ++ (e.fl.map flg ++ r))))) = _ from pNs_enc [e.k, e.a, e.b, e.c] _ (by simp only [List.mem_cons, List.mem_nil_iff, or_false, forall_eq_or_imp, forall_eq]; omega)]
  simp only [Option.bind_some]
  rw [pN_enc (by omega)]
  simp only [Option.bind_some]
  rw [pT_enc]
  simp only [Option.bind_some]
  rw [pN_enc (by omega)]
  simp only [Option.bind_some]
  rw [pF_enc]
  cases e
  simp only [Option.bind_some, mkEv, List.map_cons, List.map_nil, List.getD_cons_zero, List.getD_cons_succ, Option.some.injEq, Prod.mk.injEq, and_true, Ev.mk.injEq] at *
  omega
theorem pE_inv {s r : List UInt8} {e : Ev} (h : pE s = some (e, r)) : s = evB e ++ r := by
  unfold pE at h
  simp only [Option.bind_eq_some_iff] at h
  obtain ⟨⟨l, t⟩, h1, ⟨n, u⟩, h2, ⟨z, w⟩, h3, ⟨m, x⟩, h5, ⟨fl, y⟩, h6, h4⟩ := h
  simp only [Option.some.injEq, Prod.mk.injEq] at h4
  dsimp only at *
  obtain ⟨a, b⟩ := pNs_inv _ _ _ _ h1
  obtain ⟨d, e⟩ := pT_inv h3
  obtain ⟨f, g⟩ := pF_inv _ _ _ _ h6
  rw [← h4.1, ← h4.2, evB_eq, b, pN_inv h2, e, pN_inv h5, g]
  match l, a with
  | [a1, a2, a3, a4], _ => simp only [mkEv, d, f, List.getD_cons_zero, List.getD_cons_succ]; rfl
theorem evsB_cons (z : Ev) (l : List Ev) : evsB (z :: l) = evB z ++ evsB l := by simp [evsB]
theorem pV_enc : ∀ (l : List Ev) (r : List UInt8), evsOk l = true → pV l.length (evsB l ++ r) = some (l, r) := by
  intro l
  induction l with
  | nil => intro r _; rfl
  | cons z l ih =>
    intro r h
    unfold evsOk evOk at h
    simp only [List.all_cons, Bool.and_eq_true, decide_eq_true_eq] at h
    rw [evsB_cons, List.append_assoc, List.length_cons, pV, pE_enc h.1]
    simp only [Option.bind_some]
    rw [ih r h.2]; rfl
theorem pV_inv : ∀ (k : Nat) (s r : List UInt8) (l : List Ev), pV k s = some (l, r) → l.length = k ∧ s = evsB l ++ r := by
  intro k
  induction k with
  | zero => intro s r l h; simp [pV] at h; rw [h.1, h.2]; exact ⟨rfl, rfl⟩
  | succ k ih =>
    intro s r l h
    simp only [pV, Option.bind_eq_some_iff] at h
    obtain ⟨⟨n, t⟩, h1, ⟨l2, w⟩, h4, h3⟩ := h
    simp only [Option.some.injEq, Prod.mk.injEq] at h3
    dsimp only at *
    obtain ⟨a, b⟩ := ih _ _ _ h4
    rw [← h3.1, ← h3.2, pE_inv h1, b, evsB_cons, List.append_assoc]
    exact ⟨by simp [a], rfl⟩
theorem scrB_eq (c : Cf) (l : List Ev) (r : List UInt8) : scrB c l ++ r = [65, 83, 1] ++ (numsB (fldL c) ++ (encN c.rs.length ++ (rtsB c.rs ++ (encN l.length ++ (evsB l ++ r))))) := by
  simp [scrB]
theorem pD_enc {c : Cf} {l : List Ev} (hc : cfOk c = true) (he : evsOk l = true) (hl : l.length ≤ 4096) : pD ((scrB c l).drop 3) = some ((c, l), []) := by
  have e : (scrB c l).drop 3 = numsB (fldL c) ++ (encN c.rs.length ++ (rtsB c.rs ++ (encN l.length ++ (evsB l ++ [])))) := by
    have := scrB_eq c l []
    rw [List.append_nil] at this
    rw [this]; rfl
  unfold pD
  rw [e, pC_enc hc]
  simp only [Option.bind_some]
  rw [pN_enc (by omega)]
  simp only [Option.bind_some]
  rw [pV_enc _ _ he]
  rfl
theorem pD_inv {s r : List UInt8} {c : Cf} {l : List Ev} (h : pD s = some ((c, l), r)) : [65, 83, 1] ++ s = scrB c l ++ r := by
  unfold pD at h
  simp only [Option.bind_eq_some_iff] at h
  obtain ⟨⟨c2, t⟩, h1, ⟨n, u⟩, h2, ⟨l2, w⟩, h3, h4⟩ := h
  simp only [Option.some.injEq, Prod.mk.injEq] at h4
  dsimp only at *
  obtain ⟨⟨q1, q2⟩, q3⟩ := h4
  subst q1; subst q2; subst q3
  obtain ⟨d, e⟩ := pV_inv _ _ _ _ h3
  rw [scrB_eq, pC_inv h1, pN_inv h2, e, d]
theorem numB_two (B : List UInt8) {n : Int} (h0 : 0 ≤ n) (h1 : n ≤ 65535) : numB (B ++ twoB n) B.length = n := by
  unfold numB byt twoB
  have g0 : ∀ (x y : UInt8), (B ++ [x, y]).getD B.length 0 = x := fun x y => by simp [List.getD]
  have g1 : ∀ (x y : UInt8), (B ++ [x, y]).getD (B.length + 1) 0 = y := fun x y => by simp [List.getD, List.getElem?_append_right]
  rw [g0, g1]
  rw [u8nat (by omega), u8nat (by omega)]
  omega
theorem scrB_len (c : Cf) (l : List Ev) : 3 ≤ (scrB c l).length := by
  have := scrB_eq c l []
  rw [List.append_nil] at this
  rw [this]; simp
theorem decR_enc {c : Cf} {l : List Ev} (hc : cfOk c = true) (he : evsOk l = true) (hl : l.length ≤ 4096) (hs : (scrD c l).length ≤ 262144) : decR (scrD c l) = (c, l, 0) := by
  have r := ckV_rng (scrB c l)
  have b3 := scrB_len c l
  have hlen : (scrD c l).length = (scrB c l).length + 2 := by unfold scrD; rw [List.length_append]; rfl
  have htk : (scrD c l).take ((scrD c l).length - 2) = scrB c l := by
    rw [hlen, Nat.add_sub_cancel]; unfold scrD; rw [List.take_left]
  have h3 : (scrD c l).take 3 = [65, 83, 1] := by
    unfold scrD
    rw [scrB_eq]; rfl
  have hn : numB (scrD c l) ((scrD c l).length - 2) = ckV (scrB c l) := by
    rw [hlen, Nat.add_sub_cancel]; exact numB_two _ r.1 (by omega)
  rw [dec_e hs (by omega) h3 (by rw [htk]; exact hn)]
  unfold bdy
  rw [htk]
  exact body_o (pD_enc hc he hl) (by rw [hc, he]; rfl) (by omega)
theorem decR_inv {s : List UInt8} {c : Cf} {l : List Ev} (h : decR s = (c, l, 0)) : s = scrD c l ∧ encR c l = .tup [.str s, .int .i64 0] := by
  unfold decR at h
  split at h
  · simp at h
  · rename_i h1
    split at h
    · simp at h
    · rename_i h2
      split at h
      · simp at h
      · rename_i h3
        split at h
        · simp at h
        · rename_i h4
          have h3 := Decidable.not_not.1 h3
          have h4 := Decidable.not_not.1 h4
          unfold bodyR at h
          split at h
          · simp at h
          · rename_i c2 l2 r hp
            split at h
            · rename_i hr
              subst hr
              split at h
              · rename_i hv
                split at h
                · simp at h
                · rename_i h5
                  simp only [Prod.mk.injEq, and_true] at h
                  obtain ⟨q1, q2⟩ := h
                  subst q1; subst q2
                  have hb := pD_inv hp
                  rw [List.append_nil] at hb
                  have htk : s.take (s.length - 2) = scrB c2 l2 := by
                    rw [← hb]
                    unfold bdy
                    have e1 : (s.take (s.length - 2)).take 3 = [65, 83, 1] := by rw [List.take_take, show min 3 (s.length - 2) = 3 from by omega, h3]
                    rw [← e1]
                    exact (List.take_append_drop 3 _).symm
                  have hsd : s = scrD c2 l2 := by
                    unfold scrD
                    rw [← htk, ← h4, two_num]
                    exact split2 (s := s) (n := s.length - 2) (by omega)
                  refine ⟨hsd, ?_⟩
                  have e := encR_o (c := c2) (l := l2) hv.1 hv.2 h5 (by rw [← hsd]; exact h1)
                  rw [← hsd] at e
                  exact e
              · simp at h
            · simp at h
end Go.Proofs.Ytdommpfnoiemkaa

/- Chapter 27: configurations and events compared with themselves. -/
namespace Go.Proofs.Ytdommpfnoiemkaa
open Go.Sx
set_option linter.unusedSimpArgs false
set_option linter.unusedVariables false
theorem eqRt_s (ts : List (Int × Int)) (hl : ts.length ≤ 1000000) : PSpec Try.prog 99 [.rs 2 (ts.map rtE), .rs 2 (ts.map rtE)] (· = .bool true) := by
  refine .of_code' tab_ok Try.func99 (by rfl) rfl trivial ?_
  conv => whnf
  refine both_f (by simp) ?_
  conv => whnf
  refine LoopG.inv tab_ok 26 (fun i : { i : Nat // i ≤ ts.length } => [(0, .rs 2 (ts.map rtE)), (1, .rs 2 (ts.map rtE)), (5, .int .i64 (i.1 : Int))]) (fun _ => []) (fun i => ts.length - i.1) ⟨0, by omega⟩ (.of [] (by decide) ?_) ?_
  · conv => whnf
    refine ⟨by rfl, ?_⟩
    conv => whnf
    refine ⟨by rfl, ?_⟩
    conv => whnf
    refine ⟨by rfl, ?_⟩
    conv => whnf
    exact trivial
  · intro i
    have hi := i.2
    conv => whnf
    refine ⟨fun hb => ?_, fun hb => ?_⟩
    · have hb : i.1 < ts.length := by simpa using hb
      conv => whnf
      refine DrawG.of mixed tab_ok ?_
      conv => whnf
      refine ⟨by simp; omega, ?_⟩
      conv => whnf
      refine ⟨_, rt_get hb, ?_⟩
      conv => whnf
      refine ⟨by simp; omega, ?_⟩
      conv => whnf
      refine ⟨_, rt_get hb, ?_⟩
      conv => whnf
      refine ⟨by kernel_rfl, ?_⟩
      conv => whnf
      refine both_f (by simp) ?_
      conv => whnf
      (refine ⟨⟨i.1 + 1, by omega⟩, by show ts.length - (i.1 + 1) < ts.length - i.1; omega, .of [] (by decide) ?_⟩)
      conv => whnf
      refine ⟨by rfl, ?_⟩
      conv => whnf
      refine ⟨by rfl, ?_⟩
      conv => whnf
      refine ⟨by exact (w64 _ (by omega) (by omega)).trans (by simp), ?_⟩
      conv => whnf
      exact trivial
    · conv => whnf
      refine .same ?_
      conv => whnf
theorem eqFl_s (ts : List Bool) (hl : ts.length ≤ 1000000) : PSpec Try.prog 100 [.rs 1 (ts.map blE), .rs 1 (ts.map blE)] (· = .bool true) := by
  refine .of_code' tab_ok Try.func100 (by rfl) rfl trivial ?_
  conv => whnf
  refine both_f (by simp) ?_
  conv => whnf
  refine LoopG.inv tab_ok 26 (fun i : { i : Nat // i ≤ ts.length } => [(0, .rs 1 (ts.map blE)), (1, .rs 1 (ts.map blE)), (5, .int .i64 (i.1 : Int))]) (fun _ => []) (fun i => ts.length - i.1) ⟨0, by omega⟩ (.of [] (by decide) ?_) ?_
  · conv => whnf
    refine ⟨by rfl, ?_⟩
    conv => whnf
    refine ⟨by rfl, ?_⟩
    conv => whnf
    refine ⟨by rfl, ?_⟩
    conv => whnf
    exact trivial
  · intro i
    have hi := i.2
    conv => whnf
    refine ⟨fun hb => ?_, fun hb => ?_⟩
    · have hb : i.1 < ts.length := by simpa using hb
      conv => whnf
      refine DrawG.of mixed tab_ok ?_
      conv => whnf
      refine ⟨by simp; omega, ?_⟩
      conv => whnf
      refine ⟨_, fl_get hb, ?_⟩
      conv => whnf
      refine ⟨by simp; omega, ?_⟩
      conv => whnf
      refine ⟨_, fl_get hb, ?_⟩
      conv => whnf
      refine ⟨by kernel_rfl, ?_⟩
      conv => whnf
      refine both_f (by simp) ?_
      conv => whnf
      (refine ⟨⟨i.1 + 1, by omega⟩, by show ts.length - (i.1 + 1) < ts.length - i.1; omega, .of [] (by decide) ?_⟩)
      conv => whnf
      refine ⟨by rfl, ?_⟩
      conv => whnf
      refine ⟨by rfl, ?_⟩
      conv => whnf
      refine ⟨by exact (w64 _ (by omega) (by omega)).trans (by simp), ?_⟩
      conv => whnf
      exact trivial
    · conv => whnf
      refine .same ?_
      conv => whnf
theorem hcfg_s (c : Cf) (hl : c.rs.length ≤ 1000000) : PSpec Try.prog 55 [cfE c, cfE c] (· = .bool true) := by
  refine .of_code' tab_ok Try.func55 (by rfl) rfl trivial ?_
  conv => whnf
  refine both_t (by simp) ?_
  conv => whnf
  refine both_t (by simp) ?_
  conv => whnf
  refine both_t (by simp) ?_
  conv => whnf
  refine both_t (by simp) ?_
  conv => whnf
  refine both_t (by simp) ?_
  conv => whnf
  refine both_t (by simp) ?_
  conv => whnf
  refine both_t (by simp) ?_
  conv => whnf
  refine both_t (by simp) ?_
  conv => whnf
  refine both_t (by simp) ?_
  conv => whnf
  refine (eqRt_s _ (by first | omega | assumption | decide | simp)).call ?_
  rintro _ rfl
  conv => whnf
theorem hevs_s (l : List Ev) (hl : l.length ≤ 1000000) (hf : ∀ i, (l.getD i ev0).fl.length ≤ 1000000) : PSpec Try.prog 56 [.rs 6 (l.map evE), .rs 6 (l.map evE)] (· = .bool true) := by
  refine .of_code' tab_ok Try.func56 (by rfl) rfl trivial ?_
  conv => whnf
  refine both_f (by simp) ?_
  conv => whnf
  refine LoopG.inv tab_ok 68 (fun i : { i : Nat // i ≤ l.length } => [(0, .rs 6 (l.map evE)), (1, .rs 6 (l.map evE)), (5, .int .i64 (i.1 : Int))]) (fun _ => []) (fun i => l.length - i.1) ⟨0, by omega⟩ (.of [] (by decide) ?_) ?_
  · conv => whnf
    refine ⟨by rfl, ?_⟩
    conv => whnf
    refine ⟨by rfl, ?_⟩
    conv => whnf
    refine ⟨by rfl, ?_⟩
    conv => whnf
    exact trivial
  · intro i
    have hi := i.2
    have hfi := hf i.1
    conv => whnf
    refine ⟨fun hb => ?_, fun hb => ?_⟩
    · have hb : i.1 < l.length := by simpa using hb
      conv => whnf
      refine DrawG.of mixed tab_ok ?_
      conv => whnf
      refine ⟨by simp; omega, ?_⟩
      conv => whnf
      refine ⟨_, ev_get hb, ?_⟩
      conv => whnf
      refine ⟨by simp; omega, ?_⟩
      conv => whnf
      refine ⟨_, ev_get hb, ?_⟩
      conv => whnf
      refine ⟨by kernel_rfl, ?_⟩
      conv => whnf
      refine both_f (by simp) ?_
      conv => whnf
      refine both_f (by simp) ?_
      conv => whnf
      refine both_f (by simp) ?_
      conv => whnf
      refine both_f (by simp) ?_
      conv => whnf
      refine both_f (by simp) ?_
      conv => whnf
      refine (eqFl_s _ (by first | omega | assumption | decide | simp)).call ?_
      rintro _ rfl
      conv => whnf
      refine both_f rfl ?_
      conv => whnf
      (refine ⟨⟨i.1 + 1, by omega⟩, by show l.length - (i.1 + 1) < l.length - i.1; omega, .of [] (by decide) ?_⟩)
      conv => whnf
      refine ⟨by rfl, ?_⟩
      conv => whnf
      refine ⟨by rfl, ?_⟩
      conv => whnf
      refine ⟨by exact (w64 _ (by omega) (by omega)).trans (by simp), ?_⟩
      conv => whnf
      exact trivial
    · conv => whnf
      refine .same ?_
      conv => whnf
end Go.Proofs.Ytdommpfnoiemkaa

/- A shift between two of a function's statements. No statement of the seat is proved here. -/
namespace Go.Sx
set_option linter.unusedVariables false
section
variable {P : Program} {T : Tab}
/-- The first n statements, then a shift, then the others. -/
noncomputable def cutK (P : Program) (T : Tab) (m : Nat) : Nat → Code → Fr → Hp → Post → Prop
  | 0, c, F, h, K => XG m F h fun F h => codeK P T m c F h K
  | n + 1, .seq a r, F, h, K => codeK P T m a F h fun x F h => match x with
    | .normal => cutK P T m n r F h K
    | .exit i => K (.exit i) F h
    | .ret => K .ret F h
  | _ + 1, c, F, h, K => codeK P T m c F h K
theorem cutK_sound (hT : TabOK P T) {m : Nat} : ∀ (n : Nat) (c : Code) {F : Fr} {h : Hp} {K : Post}, cutK P T m n c F h K → SOK P m c F h K := by
  intro n
  induction n with
  | zero =>
    intro c F h K hk
    obtain ⟨F', h', hs, hk⟩ := XG.ok (by simpa only [cutK] using hk)
    exact .shift hs (codeK_sound hT c hk)
  | succ n ih =>
    intro c F h K hk
    cases c with
    | seq a r =>
      refine SOK.seq ((codeK_sound hT a (by simpa only [cutK] using hk)).mono fun x F h hk => ?_)
      cases x with
      | normal => exact ih r hk
      | exit i => exact hk
      | ret => exact hk
    | _ => exact codeK_sound hT _ (by simpa only [cutK] using hk)
theorem CallG.of_cut (hT : TabOK P T) (n : Nat) {f : FuncId} {fn : Func} {c : Code} {args : List SV} {h : Hp} {R : SV → Hp → Prop} (hf : P.funcs[f]? = some fn) (hn : (fn.name == "runtime.NumGoroutine") = false)
    (hb : fn.body = some c) (hk : startK args fn.ntmps fun F => cutK P T h.length n c F h (retK T fn R)) : CallG P f args h R := by
  obtain ⟨F, hk, hs⟩ := startK_sound hk
  refine ⟨fun w X σ vs hI hr => ?_⟩
  have hcall : (callFunc f vs.toArray).run P w = .ok (.enter f vs.toArray) w := by
    have h1 : fn.name ≠ "runtime.NumGoroutine" := by simpa using hn
    simp [callFunc, hf, h1, hb]
  unfold DoneS
  rw [hcall]
  refine calls_of_wp hf hb (wp_mono (cutK_sound hT n c hk w X σ _ hI (hs w _ σ vs hr)) fun e a w' hq => ?_)
  obtain ⟨hd, x, F', h', σ', hx, hk, hI', hF', hS⟩ := hq
  have hm : h.length = σ.length := hI.len.symm
  rw [hm] at hS
  have fin : resK h' F' T fn.results.toList (fun l => tupK l fun s => R s h') → a.defers = [] ∧ ∃ v, (results fn a.tmps).run P w' = .ok v w' ∧ ∃ v', Ending.returned v = .returned v' ∧ ∃ s h' σ', R s h' ∧ Rep w' (Ex X σ') σ' s v' ∧ Inv w' X σ' h' ∧ Step σ.length w σ w' σ' := by
    intro hk
    obtain ⟨ss, hk, hrs⟩ := resK_sound hT _ hk
    obtain ⟨s, hk, hst⟩ := tupK_sound hk
    obtain ⟨vs', hrun, hrl⟩ := hrs w' X σ' a.tmps hI' hF'
    have hres : (results fn a.tmps).run P w' = .ok (if h : vs'.toArray.size = 1 then vs'.toArray[0] else .tuple vs'.toArray) w' := by
      unfold results
      rw [Array.mapM_eq_mapM_toList]
      simp only [Sem.run_bind, Sem.run_map, Sem.run_pure]
      erw [hrun]
      rfl
    exact ⟨hd, _, hres, _, rfl, s, h', σ', hk, hst w' _ σ' vs'.toArray (by simpa using hrl), hI', hS⟩
  cases e <;> cases hx
  case normal => exact fin hk
  case ret => exact fin hk
  case exit id => exact hk.elim
theorem PSpec.of_cut (hT : TabOK P T) (n : Nat) {f : FuncId} {fn : Func} {c : Code} {args : List SV} {R : SV → Prop} (hf : P.funcs[f]? = some fn) (hn : (fn.name == "runtime.NumGoroutine") = false)
    (hb : fn.body = some c) (ha : freesK args True) (hk : startK args fn.ntmps fun F => cutK P T 0 n c F [] (retK T fn fun s _ => outK s R)) : PSpec P f args R :=
  .of_out ha (CallG.of_cut hT n hf hn hb hk)
end
end Go.Sx

/- A row that nobody writes any more, also where structs name it; functions that are handed blocks, with a shift between two statements. No statement of the seat is proved here. -/
namespace Go.Sx
set_option linter.unusedVariables false
section
variable {P : Program} {T : Tab}
noncomputable def mapHK (b : Nat) (s : SV) (h : Hp) : (Hp → Prop) → Prop :=
  List.rec (motive := fun _ => (Hp → Prop) → Prop) (fun k => k []) (fun x _ ih k => match x with
    | .fix T cs => mapSlK b s cs fun cs' => ih fun r => k (.fix T cs' :: r)
    | x => ih fun r => k (x :: r)) h
theorem mapHK_sound {b : Nat} {s : SV} (h : Hp) : ∀ {k : Hp → Prop}, mapHK b s h k → ∃ h', k h' ∧ h'.length = h.length ∧ ∀ (i : Nat) (x y : Blk), h[i]? = some x → h'[i]? = some y →
    x = y ∨ ∃ T cs cs', x = .fix T cs ∧ y = .fix T cs' ∧ cs'.length = cs.length ∧ ∀ (j : Nat) (c d : SV), cs[j]? = some c → cs'[j]? = some d → (c = .sl b ∧ d = s) ∨ c = d := by
  induction h with
  | nil => intro k h; exact ⟨[], h, rfl, by simp⟩
  | cons x t ih =>
    intro k hk
    have key : ∃ y, mapHK b s t (fun r => k (y :: r)) ∧ (x = y ∨ ∃ T cs cs', x = .fix T cs ∧ y = .fix T cs' ∧ cs'.length = cs.length ∧ ∀ (j : Nat) (c d : SV), cs[j]? = some c → cs'[j]? = some d → (c = .sl b ∧ d = s) ∨ c = d) := by
      cases x with
      | fix T cs =>
        obtain ⟨cs', hk, hl, hc⟩ := mapSlK_sound cs (show mapSlK b s cs (fun cs' => mapHK b s t fun r => k (.fix T cs' :: r)) from hk)
        exact ⟨_, hk, .inr ⟨T, cs, cs', rfl, rfl, hl, hc⟩⟩
      | fresh => exact ⟨_, hk, .inl rfl⟩
      | dead => exact ⟨_, hk, .inl rfl⟩
      | row T z es => exact ⟨_, hk, .inl rfl⟩
    obtain ⟨y, hk, hy⟩ := key
    obtain ⟨h', hk, hl, hr⟩ := ih hk
    refine ⟨_, hk, by simp [hl], fun i a c ha hc => ?_⟩
    cases i with
    | zero => simp at ha hc; subst ha; subst hc; exact hy
    | succ i => exact hr i a c (by simpa using ha) (by simpa using hc)
noncomputable def frzHK (m b : Nat) (F : Fr) (h : Hp) (K : Fr → Hp → Prop) : Prop :=
  leNK m b (nthK h b fun blk => match blk with
    | .row _ z es => setK h b .dead fun h' => mapHK b (.rs z es) h' fun h'' => mapSlK b (.rs z es) F fun F' => K F' h''
    | _ => False)
theorem frzH_sound {m b : Nat} {F : Fr} {h : Hp} {K : Fr → Hp → Prop} (hk : frzHK m b F h K) : ∃ F' h', Shift m F h F' h' ∧ K F' h' := by
  obtain ⟨_, hk⟩ := leNK_sound hk
  obtain ⟨blk, hb, hk⟩ := nthK_sound hk
  cases blk with
  | row t z es =>
    obtain ⟨hlt, hk⟩ := setK_sound (show setK h b .dead _ from hk)
    obtain ⟨h2, hk, hl2, hH⟩ := mapHK_sound _ hk
    obtain ⟨F', hk, hl, hF'⟩ := mapSlK_sound F hk
    refine ⟨F', h2, ⟨fun w X σ tmps hI hF => ?_⟩, hk⟩
    obtain ⟨hI', hS, hown⟩ := hI.kill m b
    have hσb : σ[b]? = some (σ[b]'(by rw [hI.len]; exact hlt)) := List.getElem?_eq_getElem _
    have hE : ∀ g, Ex X (σ.set b .dead) g → Ex X σ g := fun g hx => hx.elim .inl fun ho => by
      obtain ⟨i, e, _, he, hg⟩ := hown g ho
      exact .inr ⟨i, e, he, hg⟩
    have conv : ∀ (s : SV) (v : Value), Rep w (Ex X σ) σ s v → ∀ s', ((s = .sl b ∧ s' = .rs z es) ∨ s = s') → Rep w (Ex X (σ.set b .dead)) (σ.set b .dead) s' v := by
      intro s v hr s' hs
      rcases hs with ⟨e1, e2⟩ | e1
      · subst e2
        rw [e1] at hr
        refine rs_of_row hσb (hI.ok b _ _ hb hσb) hE (fun g hg hx => ?_) (fun g hg => hI.lt b _ g hσb hg) hr
        rcases hx with hx | ho
        · exact hI.dis g hx ⟨b, _, hσb, hg⟩
        · obtain ⟨j, e, hne, he, hg'⟩ := hown g ho
          exact hne (hI.inj j b e _ g he hσb hg' hg)
      · rw [← e1]
        exact hr.mono _ (fun _ _ _ => rfl) (Nat.le_refl _) (fun g _ hn h => hn (hE g h)) (fun j e he hf => by
          rw [List.getElem?_set]
          by_cases hjb : b = j
          · rw [if_pos hjb, if_pos (by rw [hjb]; exact (List.getElem?_eq_some_iff.1 he).1)]; exact .inr rfl
          · rw [if_neg hjb]; exact .inl he)
    refine ⟨_, ⟨by rw [hI'.len, hl2], fun i bl e hbl he => ?_, hI'.lt, hI'.inj, hI'.dis, hI'.xlt⟩, ⟨by rw [hl]; exact hF.1, fun i s v hs hv => ?_⟩, hS⟩
    · have hi : i < (h.set b Blk.dead).length := by rw [← hl2]; exact (List.getElem?_eq_some_iff.1 hbl).1
      have hold : (h.set b Blk.dead)[i]? = some ((h.set b Blk.dead)[i]) := List.getElem?_eq_getElem hi
      have hok := hI'.ok i _ e hold he
      rcases hH i _ bl hold hbl with e1 | ⟨T', cs, cs', e1, e2, hlen, hcs⟩
      · rw [← e1]; exact hok
      · subst e2
        have hne : i ≠ b := by
          intro q
          subst q
          rw [List.getElem?_set] at hold
          simp at e1
        rw [List.getElem?_set, if_neg (Ne.symm hne)] at he
        have hold2 : h[i]? = some (.fix T' cs) := by
          rw [List.getElem?_set, if_neg (Ne.symm hne), e1] at hold
          exact hold
        have h1 := hI.ok i _ e hold2 he
        cases e <;> simp only [BlkOK] at h1 ⊢
        obtain ⟨vs, a1, a2, a3⟩ := h1
        refine ⟨vs, a1, by rw [hlen]; exact a2, fun j s v hs hv => ?_⟩
        have hj : j < cs.length := by rw [← hlen]; exact (List.getElem?_eq_some_iff.1 hs).1
        obtain ⟨r1, r2⟩ := a3 j _ v (List.getElem?_eq_getElem hj) hv
        exact ⟨conv _ v r1 s (hcs j _ s (List.getElem?_eq_getElem hj) hs), r2⟩
    · have hi : i < F.length := by rw [← hl]; exact (List.getElem?_eq_some_iff.1 hs).1
      exact conv _ v (hF.2 i _ v (List.getElem?_eq_getElem hi) hv) s (hF' i _ s (List.getElem?_eq_getElem hi) hs)
  | _ => exact hk.elim
theorem XG.freezeH {m : Nat} {F : Fr} {h : Hp} {K : Fr → Hp → Prop} (b : Nat) (hk : frzHK m b F h fun F' h' => XG m F' h' K) : XG m F h K := by
  obtain ⟨F', h', hs, hk⟩ := frzH_sound hk
  exact hk.step hs
theorem OSpec.of_cut (hT : TabOK P T) (n : Nat) {f : FuncId} {fn : Func} {c : Code} {args : List SV} {hin : Hp} {R : SV → Hp → Prop} (hf : P.funcs[f]? = some fn) (hn : (fn.name == "runtime.NumGoroutine") = false)
    (hb : fn.body = some c) (hfin : freeBlksK hin True)
    (hk : startK args fn.ntmps fun F => cutK P T hin.length n c F hin (retK T fn fun s h' => outHK hin.length h' s fun s' => takeK hin.length h' fun ho => freeBlksK ho (R s' ho))) : OSpec P f args hin R :=
  .of_call (freeBlksK_sound hfin).2 (CallG.of_cut hT n hf hn hb hk)
end
end Go.Sx

/- Chapter 27: the program is there. -/
namespace Go.Proofs.Ytdommpfnoiemkaa
open Go.Sx
set_option linter.unusedSimpArgs false
set_option linter.unusedVariables false
theorem _root_.Go.Sx.PSpec.preA {P : Program} {f : FuncId} {args args' : List SV} {R : SV → Prop} (hs : PSpec P f args R) (hl : SLeL args' args) : PSpec P f args' R :=
  ⟨fun h K hk => ⟨fun w X σ vs hI hr => (hs.ok h K hk).ok w X σ vs hI ⟨by rw [← hl.1]; exact hr.1, fun i s v hs hv => by
    have hi : i < args'.length := by rw [hl.1]; exact (List.getElem?_eq_some_iff.1 hs).1
    exact hl.2 i _ s (List.getElem?_eq_getElem hi) hs _ _ _ _ (hr.2 i _ v (List.getElem?_eq_getElem hi) hv)⟩⟩⟩
def cA : Cf := ⟨1, 1, 2, 0, 0, 0, 1, 1, 1, 1, 1, 300, 1, 1, [(1, 0)]⟩
theorem cA_ok : cfOk cA = true := by decide +kernel
theorem cA_len : (scrD cA []).length = 24 := by
  simp [scrD, scrB, cA, numsB, fldL, rtsB, rtB, evsB, encN_lt, encN_ge, twoB]
theorem encA : encR cA [] = .tup [.str (scrD cA []), .int .i64 0] := encR_o cA_ok rfl (by decide) (by rw [cA_len]; decide)
theorem decA : decR (scrD cA []) = (cA, [], 0) := decR_enc cA_ok rfl (by decide) (by rw [cA_len]; decide)
theorem encodeA_s : PSpec Try.prog 53 [.agg [.int .i64 1, .int .i64 1, .int .i64 2, .int .i64 0, .int .i64 0, .int .i64 0, .int .i64 1, .int .i64 1, .int .i64 1, .int .i64 1, .int .i64 1, .int .i64 300, .int .i64 1, .int .i64 1, .rs 2 [[.int .i64 1, .int .i64 0]]], .nils] (· = .tup [.str (scrD cA []), .int .i64 0]) := by
  have h := encode_s cA [] (by decide) (by decide)
  rw [encA] at h
  exact h.preA (.cons (.refl _) (.cons .nil .nil))
theorem decodeA_s : PSpec Try.prog 54 [.str (scrD cA [])] (· = .tup [cfE cA, .rs 6 [], .int .i64 0]) := by
  have h := decode_s (scrD cA []) (by rw [cA_len]; decide)
  rw [decA] at h
  exact h
theorem hcfgA_s : PSpec Try.prog 55 [.agg [.int .i64 1, .int .i64 1, .int .i64 2, .int .i64 0, .int .i64 0, .int .i64 0, .int .i64 1, .int .i64 1, .int .i64 1, .int .i64 1, .int .i64 1, .int .i64 300, .int .i64 1, .int .i64 1, .rs 2 [[.int .i64 1, .int .i64 0]]], cfE cA] (· = .bool true) := hcfg_s cA (by decide)
theorem awake_s : PSpec Try.prog 48 [] (· = .bool true) := by
  refine PSpec.of_cut tab_ok 2 Try.func48 (by rfl) rfl trivial ?_
  conv => whnf
  (refine XG.freezeH 0 ?_; (conv => whnf); refine XG.same ?_)
  conv => whnf
  refine (encodeA_s).call ?_
  rintro _ rfl
  conv => whnf
  refine (decodeA_s).call ?_
  rintro _ rfl
  conv => whnf
  refine both_t rfl ?_
  conv => whnf
  refine both_t rfl ?_
  conv => whnf
  refine both_t (by (rw [cA_len]; rfl)) ?_
  conv => whnf
  refine both_t rfl ?_
  conv => whnf
  refine (hcfgA_s).call ?_
  rintro _ rfl
  conv => whnf
end Go.Proofs.Ytdommpfnoiemkaa

/- Chapter 27: drawn configurations. -/
namespace Go.Proofs.Ytdommpfnoiemkaa
open Go.Sx
set_option linter.unusedSimpArgs false
set_option linter.unusedVariables false
def als : List (Int × Int) := [(1, 2), (9, 10), (1, 10), (2, 3), (1048575, 1048576), (1, 1048576)]
def alx (ls : List Int) (at' : Int) : Int × Int := als.getD (nxt ls at' 6).toNat (0, 0)
theorem als_get {i : Int} (h0 : 0 ≤ i) (h1 : i < 6) : (als.map fun p => [SV.int .i64 p.1, SV.int .i64 p.2])[i.toNat]? = some [SV.int .i64 (als.getD i.toNat (0, 0)).1, SV.int .i64 (als.getD i.toNat (0, 0)).2] := by
  have hl : i.toNat < als.length := by show i.toNat < 6; omega
  rw [List.getElem?_map, List.getElem?_eq_getElem hl]
  simp [List.getD, List.getElem?_eq_getElem hl]
theorem galpha_s (ls : List Int) (at' : Int) (h0 : 0 ≤ at') (h1 : at' < 9223372036854775800) :
    OSpec Try.prog 78 [.ptr 0 0] [chs ls at'] fun s ho => s = .agg [.int .i64 (alx ls at').1, .int .i64 (alx ls at').2] ∧ ho = [chs ls (at' + 1)] := by
  refine .of_code tab_ok Try.func78 (by rfl) rfl trivial ?_
  conv => whnf
  refine (next_s _ _ _ (by first | omega | assumption | decide | simp) (by first | omega | assumption | decide | simp) (by first | omega | assumption | decide | simp)).call [0] (by decide) (And.intro rfl trivial) (And.intro rfl trivial) ?_
  rintro _ _ ⟨rfl, rfl⟩
  conv => whnf
  refine ⟨by exact ⟨nxt_lo _ _ _, nxt_hi _ _ _ (by omega)⟩, ?_⟩
  conv => whnf
  refine ⟨_, als_get (nxt_lo _ _ _) (nxt_hi _ _ _ (by decide)), ?_⟩
  conv => whnf
  refine ⟨by rfl, ?_⟩
  conv => whnf
def pkN (ls : List Int) (a : Int) : Int := 1 + nxt ls (a + 1) 5
def pkK (ls : List Int) (a : Int) : Int := if nxt ls a 3 = 0 then 2 else if nxt ls a 3 = 1 then 1 else 0
def pkA (ls : List Int) (a : Int) : Int := if nxt ls a 3 = 0 then 0 else if nxt ls a 3 = 1 then 1 + nxt ls (a + 1 + 1) (pkN ls a) else 0
def pkB (ls : List Int) (a : Int) : Int := if nxt ls a 3 = 0 then 0 else if nxt ls a 3 = 1 then pkN ls a else 0
def pkP (ls : List Int) (a : Int) : Int := if nxt ls a 3 = 0 then a + 1 else if nxt ls a 3 = 1 then a + 1 + 1 + 1 else a + 1
theorem pkN_rng (ls : List Int) (a : Int) : 1 ≤ pkN ls a ∧ pkN ls a ≤ 5 := by
  have n0 := nxt_lo ls (a + 1) 5
  have n1 := nxt_hi ls (a + 1) 5 (by omega)
  unfold pkN; omega
theorem pk_p (ls : List Int) (a : Int) : prP (pkK ls a) (pkA ls a) (pkB ls a) := by
  obtain ⟨r0, r1⟩ := pkN_rng ls a
  have n0 := nxt_lo ls (a + 1 + 1) (pkN ls a)
  have n1 := nxt_hi ls (a + 1 + 1) (pkN ls a) (by omega)
  unfold prP pkK pkA pkB
  by_cases h0 : nxt ls a 3 = 0
  · simp [h0]
  · by_cases h1 : nxt ls a 3 = 1
    · simp [h1]; omega
    · simp [h0, h1]
theorem pkP_rng (ls : List Int) (a : Int) : a ≤ pkP ls a ∧ pkP ls a ≤ a + 3 := by unfold pkP; split <;> (try split) <;> omega
theorem gpred_s (ls : List Int) (a : Int) (h0 : 0 ≤ a) (h1 : a < 9223372036854775000) :
    OSpec Try.prog 79 [.ptr 0 0] [chs ls a] fun s ho => s = .agg [.int .i64 (pkK ls a), .int .i64 (pkA ls a), .int .i64 (pkB ls a)] ∧ ho = [chs ls (pkP ls a)] := by
  refine .of_code tab_ok Try.func79 (by rfl) rfl trivial ?_
  have n0 := nxt_lo ls (a + 1) 5
  have n1 := nxt_hi ls (a + 1) 5 (by omega)
  obtain ⟨r0, r1⟩ := pkN_rng ls a
  have m0 := nxt_lo ls (a + 1 + 1) (pkN ls a)
  have m1 := nxt_hi ls (a + 1 + 1) (pkN ls a) (by omega)
  have w1 : IntKind.i64.wrap (1 + nxt ls (a + 1) 5) = pkN ls a := by unfold pkN; rw [w64 _ (by omega) (by omega)]
  have w2 : IntKind.i64.wrap (1 + nxt ls (a + 1 + 1) (pkN ls a)) = 1 + nxt ls (a + 1 + 1) (pkN ls a) := w64 _ (by omega) (by omega)
  conv => whnf
  refine (next_s _ _ _ (by first | omega | assumption | decide | simp) (by first | omega | assumption | decide | simp) (by first | omega | assumption | decide | simp)).call [0] (by decide) (And.intro rfl trivial) (And.intro rfl trivial) ?_
  rintro _ _ ⟨rfl, rfl⟩
  by_cases h0 : nxt ls a 3 = 0
  · have e1 : pkK ls a = 2 := by simp [pkK, h0]
    have e2 : pkA ls a = 0 := by simp [pkA, h0]
    have e3 : pkB ls a = 0 := by simp [pkB, h0]
    have e4 : pkP ls a = a + 1 := by simp [pkP, h0]
    rw [e1, e2, e3, e4]
    conv => whnf
    refine both_t (by exact decide_eq_true h0) ?_
    conv => whnf
    refine ⟨by rfl, ?_⟩
    conv => whnf
  · by_cases h1 : nxt ls a 3 = 1
    · have e1 : pkK ls a = 1 := by simp [pkK, h1]
      have e2 : pkA ls a = 1 + nxt ls (a + 1 + 1) (pkN ls a) := by simp [pkA, h1]
      have e3 : pkB ls a = pkN ls a := by simp [pkB, h1]
      have e4 : pkP ls a = a + 1 + 1 + 1 := by simp [pkP, h1]
      rw [e1, e2, e3, e4]
      conv => whnf
      refine both_f (by exact decide_eq_false h0) ?_
      conv => whnf
      refine both_t (by exact decide_eq_true h1) ?_
      conv => whnf
      refine (next_s _ _ _ (by first | omega | assumption | decide | simp) (by first | omega | assumption | decide | simp) (by first | omega | assumption | decide | simp)).call [0] (by decide) (And.intro rfl trivial) (And.intro rfl trivial) ?_
      rintro _ _ ⟨rfl, rfl⟩
      have p1 : 0 < IntKind.i64.wrap (1 + nxt ls (a + 1) 5) := by rw [w1]; omega
      conv => whnf
      refine (next_s _ _ _ (by first | omega | assumption | decide | simp) (by first | omega | assumption | decide | simp) (by first | omega | assumption | decide | simp)).call [0] (by decide) (And.intro rfl trivial) (And.intro rfl trivial) ?_
      rintro _ _ ⟨rfl, rfl⟩
      conv => whnf
      refine ⟨by simp [*], ?_⟩
      conv => whnf
    · have e1 : pkK ls a = 0 := by simp [pkK, h0, h1]
      have e2 : pkA ls a = 0 := by simp [pkA, h0, h1]
      have e3 : pkB ls a = 0 := by simp [pkB, h0, h1]
      have e4 : pkP ls a = a + 1 := by simp [pkP, h0, h1]
      rw [e1, e2, e3, e4]
      conv => whnf
      refine both_f (by exact decide_eq_false h0) ?_
      conv => whnf
      refine both_f (by exact decide_eq_false h1) ?_
      conv => whnf
      refine ⟨by rfl, ?_⟩
      conv => whnf
theorem gmode_s (ls : List Int) (a : Int) (h0 : 0 ≤ a) (h1 : a < 9223372036854775000) :
    OSpec Try.prog 42 [.ptr 0 0] [chs ls a] fun s ho => s = .int .i64 (1 + nxt ls a 3) ∧ ho = [chs ls (a + 1)] := by
  refine .of_code tab_ok Try.func42 (by rfl) rfl trivial ?_
  have n0 := nxt_lo ls a 3
  have n1 := nxt_hi ls a 3 (by omega)
  have w1 : IntKind.i64.wrap (1 + nxt ls a 3) = 1 + nxt ls a 3 := w64 _ (by omega) (by omega)
  conv => whnf
  refine (next_s _ _ _ (by first | omega | assumption | decide | simp) (by first | omega | assumption | decide | simp) (by first | omega | assumption | decide | simp)).call [0] (by decide) (And.intro rfl trivial) (And.intro rfl trivial) ?_
  rintro _ _ ⟨rfl, rfl⟩
  conv => whnf
  refine ⟨by simp; omega, ?_⟩
  conv => whnf
def wiL : List Int := [1, 2, 4, 64]
def quL : List Int := [256, 1000, 5000]
def cyL : List Int := [512, 20, 6]
def reL : List Int := [1099511627776, 1, 268435456, 1073741824]
/-- The configuration that is drawn at a place b behind alpha and predictor. -/
def cfX (ls : List Int) (a m : Int) : Cf := ⟨m, (alx ls a).1, (alx ls a).2, pkK ls (a + 1), pkA ls (a + 1), pkB ls (a + 1), 1 + nxt ls (pkP ls (a + 1)) 4, 4096 + 2000 * nxt ls (pkP ls (a + 1) + 1) 3, 1048576,
  1 + nxt ls (pkP ls (a + 1) + 1 + 1) 4, wiL.getD (nxt ls (pkP ls (a + 1) + 1 + 1 + 1) 4).toNat 0, quL.getD (nxt ls (pkP ls (a + 1) + 1 + 1 + 1 + 1) 3).toNat 0, cyL.getD (nxt ls (pkP ls (a + 1) + 1 + 1 + 1 + 1 + 1) 3).toNat 0, reL.getD (nxt ls (pkP ls (a + 1) + 1 + 1 + 1 + 1 + 1 + 1) 4).toNat 0, [(6000, 100), (54000, 50)]⟩
def cfA (ls : List Int) (a : Int) : Int := pkP ls (a + 1) + 1 + 1 + 1 + 1 + 1 + 1 + 1
set_option maxRecDepth 100000 in
set_option maxHeartbeats 8000000 in
theorem gcfg_s (ls : List Int) (a m : Int) (h0 : 0 ≤ a) (h1 : a < 9223372036854774000) :
    OSpec Try.prog 41 [.ptr 0 0, .int .i64 m] [chs ls a] fun s ho => s = cfE (cfX ls a m) ∧ ho = [chs ls (cfA ls a)] := by
  refine .of_code tab_ok Try.func41 (by rfl) rfl trivial ?_
  obtain ⟨b, hb⟩ : ∃ b, b = pkP ls (a + 1) := ⟨_, rfl⟩
  have hr := pkP_rng ls (a + 1)
  rw [← hb] at hr
  unfold cfX cfA
  rw [← hb]
  have a0 := nxt_lo ls b 4
  have a1 := nxt_hi ls b 4 (by omega)
  have b0 := nxt_lo ls (b + 1) 3
  have b1 := nxt_hi ls (b + 1) 3 (by omega)
  have c0 := nxt_lo ls (b + 1 + 1) 4
  have c1 := nxt_hi ls (b + 1 + 1) 4 (by omega)
  have d0 := nxt_lo ls (b + 1 + 1 + 1) 4
  have d1 := nxt_hi ls (b + 1 + 1 + 1) 4 (by omega)
  have e0 := nxt_lo ls (b + 1 + 1 + 1 + 1) 3
  have e1 := nxt_hi ls (b + 1 + 1 + 1 + 1) 3 (by omega)
  have f0 := nxt_lo ls (b + 1 + 1 + 1 + 1 + 1) 3
  have f1 := nxt_hi ls (b + 1 + 1 + 1 + 1 + 1) 3 (by omega)
  have g0 := nxt_lo ls (b + 1 + 1 + 1 + 1 + 1 + 1) 4
  have g1 := nxt_hi ls (b + 1 + 1 + 1 + 1 + 1 + 1) 4 (by omega)
  have hp := gpred_s ls (a + 1) (by omega) (by omega)
  rw [← hb] at hp
  have w1 : IntKind.i64.wrap (1 + nxt ls b 4) = 1 + nxt ls b 4 := w64 _ (by omega) (by omega)
  have w2 : IntKind.i64.wrap (4096 + IntKind.i64.wrap (2000 * nxt ls (b + 1) 3)) = 4096 + 2000 * nxt ls (b + 1) 3 := by rw [w64 (2000 * nxt ls (b + 1) 3) (by omega) (by omega), w64 _ (by omega) (by omega)]
  have w3 : IntKind.i64.wrap (1 + nxt ls (b + 1 + 1) 4) = 1 + nxt ls (b + 1 + 1) 4 := w64 _ (by omega) (by omega)
  conv => whnf
  refine (galpha_s ls a (by omega) (by omega)).call [0] (by decide) trivial (And.intro rfl trivial) ?_
  rintro _ _ ⟨rfl, rfl⟩
  conv => whnf
  refine hp.call [0] (by decide) trivial (And.intro rfl trivial) ?_
  rintro _ _ ⟨rfl, rfl⟩
  conv => whnf
  refine (next_s _ _ _ (by first | omega | assumption | decide | simp) (by first | omega | assumption | decide | simp) (by first | omega | assumption | decide | simp)).call [0] (by decide) (And.intro rfl trivial) (And.intro rfl trivial) ?_
  rintro _ _ ⟨rfl, rfl⟩
  conv => whnf
  refine (next_s _ _ _ (by first | omega | assumption | decide | simp) (by first | omega | assumption | decide | simp) (by first | omega | assumption | decide | simp)).call [0] (by decide) (And.intro rfl trivial) (And.intro rfl trivial) ?_
  rintro _ _ ⟨rfl, rfl⟩
  conv => whnf
  refine DrawG.of mixed tab_ok ?_
  conv => whnf
  refine (next_s _ _ _ (by first | omega | assumption | decide | simp) (by first | omega | assumption | decide | simp) (by first | omega | assumption | decide | simp)).calld [0] (by decide) rfl (And.intro rfl trivial) (And.intro rfl trivial) ?_
  conv => whnf
  refine (next_s _ _ _ (by first | omega | assumption | decide | simp) (by first | omega | assumption | decide | simp) (by first | omega | assumption | decide | simp)).calld [0] (by decide) rfl (And.intro rfl trivial) (And.intro rfl trivial) ?_
  conv => whnf
  refine ⟨by simp; omega, ?_⟩
  conv => whnf
  refine ⟨_, gl_get (l := wiL) d0 d1, ?_⟩
  conv => whnf
  refine (next_s _ _ _ (by first | omega | assumption | decide | simp) (by first | omega | assumption | decide | simp) (by first | omega | assumption | decide | simp)).calld [0] (by decide) rfl (And.intro rfl trivial) (And.intro rfl trivial) ?_
  conv => whnf
  refine ⟨by simp; omega, ?_⟩
  conv => whnf
  refine ⟨_, gl_get (l := quL) e0 e1, ?_⟩
  conv => whnf
  refine (next_s _ _ _ (by first | omega | assumption | decide | simp) (by first | omega | assumption | decide | simp) (by first | omega | assumption | decide | simp)).calld [0] (by decide) rfl (And.intro rfl trivial) (And.intro rfl trivial) ?_
  conv => whnf
  refine ⟨by simp; omega, ?_⟩
  conv => whnf
  refine ⟨_, gl_get (l := cyL) f0 f1, ?_⟩
  conv => whnf
  refine ⟨by kernel_rfl, ?_⟩
  conv => whnf
  refine (next_s _ _ _ (by first | omega | assumption | decide | simp) (by first | omega | assumption | decide | simp) (by first | omega | assumption | decide | simp)).call [0] (by decide) (And.intro rfl trivial) (And.intro rfl trivial) ?_
  rintro _ _ ⟨rfl, rfl⟩
  conv => whnf
  refine ⟨by simp; omega, ?_⟩
  conv => whnf
  refine ⟨_, gl_get (l := reL) g0 g1, ?_⟩
  conv => whnf
  refine ⟨by simp; omega, ?_⟩
  conv => whnf
theorem cfX_ok (ls : List Int) (a m : Int) (m0 : 1 ≤ m) (m1 : m ≤ 3) : cfOk (cfX ls a m) = true := by
  obtain ⟨b, hb⟩ : ∃ b, b = pkP ls (a + 1) := ⟨_, rfl⟩
  have a0 := nxt_lo ls b 4
  have a1 := nxt_hi ls b 4 (by omega)
  have b0 := nxt_lo ls (b + 1) 3
  have b1 := nxt_hi ls (b + 1) 3 (by omega)
  have c0 := nxt_lo ls (b + 1 + 1) 4
  have c1 := nxt_hi ls (b + 1 + 1) 4 (by omega)
  have d := getD_all (l := wiL) (p := fun x => 1 ≤ x ∧ x ≤ 64) (by decide) (nxt_lo ls (b + 1 + 1 + 1) 4) (nxt_hi ls (b + 1 + 1 + 1) 4 (by omega))
  have e := getD_all (l := quL) (p := fun x => 256 ≤ x ∧ x ≤ 1048576) (by decide) (nxt_lo ls (b + 1 + 1 + 1 + 1) 3) (nxt_hi ls (b + 1 + 1 + 1 + 1) 3 (by omega))
  have f := getD_all (l := cyL) (p := fun x => 1 ≤ x ∧ x ≤ 512) (by decide) (nxt_lo ls (b + 1 + 1 + 1 + 1 + 1) 3) (nxt_hi ls (b + 1 + 1 + 1 + 1 + 1) 3 (by omega))
  have g := getD_all (l := reL) (p := fun x => 1 ≤ x ∧ x ≤ 1099511627776) (by decide) (nxt_lo ls (b + 1 + 1 + 1 + 1 + 1 + 1) 4) (nxt_hi ls (b + 1 + 1 + 1 + 1 + 1 + 1) 4 (by omega))
  have al : alP (alx ls a).1 (alx ls a).2 := by
    have h0 := nxt_lo ls a 6
    have h1 := nxt_hi ls a 6 (by omega)
    unfold alx
    obtain ⟨k, hk⟩ : ∃ k, k = (nxt ls a 6).toNat := ⟨_, rfl⟩
    rw [← hk]
    have : k < 6 := by omega
    have hd : ∀ k, k < 6 → alP (als.getD k (0, 0)).1 (als.getD k (0, 0)).2 := by unfold alP; decide
    exact hd k this
  unfold cfX
  rw [← hb]
  refine cfOk_t ⟨m0, m1, al, pk_p ls (a + 1), ⟨?_, ?_, ?_, ?_, ?_, ?_⟩, ?_, ?_, d.1, d.2, e.1, e.2, f.1, f.2, g.1, g.2, by show 1 ≤ 2; omega, by show 2 ≤ 12; omega⟩ (by show rsOk [(6000, 100), (54000, 50)] = true; decide)
  all_goals (dsimp only; omega)
theorem cfA_rng (ls : List Int) (a : Int) : a + 9 ≤ cfA ls a ∧ cfA ls a ≤ a + 11 := by
  have := pkP_rng ls (a + 1)
  have e : a + 1 + 1 ≤ pkP ls (a + 1) := by unfold pkP; split <;> (try split) <;> omega
  unfold cfA; omega
end Go.Proofs.Ytdommpfnoiemkaa

/- The statements PacketRoundTrip, PacketDamage and PacketParse as contracts. -/
namespace Go.Proofs.Ytdommpfnoiemkaa
open Go.Sx
set_option linter.unusedSimpArgs false
set_option linter.unusedVariables false
theorem format2_s (st : List UInt8) (c p l f : Int) (hs : st.length ≤ 1000) : PSpec Try.prog 23 [.agg [.str st, .int .i64 c, .int .i64 p, .int .i64 l, .int .i64 f]] (· = fmtR ⟨st, c, p, l, f⟩) := format_s ⟨st, c, p, l, f⟩ hs
theorem fmt_ok {h : Hd} (hv : hdOk h = true) : fmtR h = .tup [.str (recD h), .int .i64 0] := by unfold fmtR; rw [hv]; rfl
theorem formatX_s (ls : List Int) (a : Int) : PSpec Try.prog 23 [hdE (hdX ls a)] (· = .tup [.str (recD (hdX ls a)), .int .i64 0]) := by
  have h := nameOk_len (hdOk_of (hdX_ok ls a)).1
  rw [← fmt_ok (hdX_ok ls a)]
  exact format_s _ (by omega)
theorem rformatX_s (ls : List Int) (a : Int) : PSpec Try.prog 20 [hdE (hdX ls a)] (· = .tup [.str (recD (hdX ls a)), .int .i64 0]) := by
  have h := nameOk_len (hdOk_of (hdX_ok ls a)).1
  rw [← fmt_ok (hdX_ok ls a)]
  exact rformat_s _ (by omega)
theorem recX_len (ls : List Int) (a : Int) : 13 ≤ (recD (hdX ls a)).length ∧ (recD (hdX ls a)).length ≤ 36 := by
  have h := nameOk_len (hdOk_of (hdX_ok ls a)).1
  rw [recD_len]; omega
theorem parseX_s (ls : List Int) (a : Int) : PSpec Try.prog 24 [.str (recD (hdX ls a))] (· = .tup [hdE (hdX ls a), .int .i64 0]) := by
  have h := recX_len ls a
  have e := parse_s (recD (hdX ls a)) (by omega)
  rwa [prsV, prs_rec _ (hdX_ok ls a)] at e
theorem packetRoundTrip_s (ls : List Int) (s : List UInt8) (hs : s.length ≤ 9223372036854775807) : PSpec Try.prog 5 [.rs 1 (nums ls), .str s] TrueS := by
  refine .of_code' tab_ok Try.func5 (by rfl) rfl trivial ?_
  conv => whnf
  refine CallG.of_code tab_ok Try.func14 (by rfl) rfl ?_
  conv => whnf
  refine (header_s ls 0 (by omega) (by omega)).call [0] (by decide) trivial (And.intro rfl trivial) ?_
  rintro _ _ ⟨rfl, rfl⟩
  conv => whnf
  refine (formatX_s _ _).call ?_
  rintro _ rfl
  conv => whnf
  refine (parseX_s _ _).call ?_
  rintro _ rfl
  conv => whnf
  refine both_f rfl ?_
  conv => whnf
  refine both_f rfl ?_
  conv => whnf
  refine both_f (by simp) ?_
  conv => whnf
  refine (parse_s s hs).call ?_
  rintro _ rfl
  conv => whnf
  refine ⟨fun hb => ?_, fun hb => ?_⟩
  · conv => whnf
    refine (awake8_s).call ?_
    rintro _ rfl
    conv => whnf
  · have hb : (prsR s).2 = 0 := by simpa using hb
    obtain ⟨_, _, _, _, h5, h6⟩ := prs_inv hb
    have hl := nameOk_len (hdOk_of h5).1
    have hf : PSpec Try.prog 23 [hdE (prsR s).1] (· = .tup [.str s, .int .i64 0]) := by
      have e := format_s (prsR s).1 (by rw [h6]; omega)
      rwa [fmt_ok (by rw [h6]; exact h5), rec_prs hb] at e
    conv => whnf
    refine hf.call ?_
    rintro _ rfl
    conv => whnf
    refine both_t rfl ?_
    conv => whnf
    refine both_t (by simp) ?_
    conv => whnf
    refine (awake8_s).call ?_
    rintro _ rfl
    conv => whnf
theorem recX_row (ls : List Int) (a : Int) (i : Nat) (h : i < (recD (hdX ls a)).length) : ((recD (hdX ls a)).map byteCell)[i]? = some [SV.int .u8 (byt (recD (hdX ls a)) i)] := by
  rw [List.getElem?_map, List.getElem?_eq_getElem h]
  simp [byteCell, byt, List.getD, List.getElem?_eq_getElem h]
theorem row_set {t : List UInt8} {i : Nat} {z : Int} (h0 : 0 ≤ z) (h1 : z ≤ 255) : (t.map byteCell).set i [.int .u8 z] = (t.set i (UInt8.ofNat z.toNat)).map byteCell := by
  rw [List.map_set, u8c h0 h1]
theorem row_cut {t : List UInt8} {i k j : Nat} {z : Int} (h0 : 0 ≤ z) (h1 : z ≤ 255) : ((((t.map byteCell).set i [.int .u8 z]).take k).drop j) = ((((t.set i (UInt8.ofNat z.toNat)).take k).drop j)).map byteCell := by
  rw [row_set h0 h1, List.map_drop, List.map_take]
theorem wrap8 (z : Int) : 0 ≤ IntKind.u8.wrap z ∧ IntKind.u8.wrap z ≤ 255 := by rw [IntKind.wrap_u8]; omega
theorem bad_s (ls : List Int) (i : Nat) (b : Int) (b0 : 0 ≤ b) (b1 : b ≤ 255) (hi : i < (recD (hdX ls 0)).length) (h1 : ¬ byt (recD (hdX ls 0)) i = b) (h2 : ¬ (byt (recD (hdX ls 0)) i = 0 ∧ b = 255)) (h3 : ¬ (byt (recD (hdX ls 0)) i = 255 ∧ b = 0)) :
    PSpec Try.prog 24 [.str ((recD (hdX ls 0)).set i (UInt8.ofNat b.toNat))] (fun v => ∃ e : Int, v = .tup [hdE hd0, .int .i64 e] ∧ e ≠ 0) := by
  have hl := recX_len ls 0
  have e := u8_nat (z := b) b0 b1
  have hd := damage (hdX_ok ls 0) (b := UInt8.ofNat b.toNat) hi (by rw [e]; exact h1) (by rw [e]; exact h2) (by rw [e]; exact h3)
  refine (parse_s _ (by rw [List.length_set]; omega)).mono fun v hv => ⟨_, hv.trans ?_, hd⟩
  rw [prsV, prs_bad hd]
theorem packetDamage_s (ls : List Int) (at' : Int) (b : Int) (b0 : 0 ≤ b) (b1 : b ≤ 255) : PSpec Try.prog 6 [.rs 1 (nums ls), .int .i64 at', .int .u8 b] TrueS := by
  refine .of_code' tab_ok Try.func6 (by rfl) rfl trivial ?_
  have hl := recX_len ls 0
  conv => whnf
  refine CallG.of_code tab_ok Try.func14 (by rfl) rfl ?_
  have hm : ((recD (hdX ls 0)).map byteCell).length = (recD (hdX ls 0)).length := List.length_map ..
  have hL : 0 < (((recD (hdX ls 0)).map byteCell).length : Int) := by omega
  have e0 := Int.emod_nonneg at' (show (((recD (hdX ls 0)).map byteCell).length : Int) ≠ 0 by omega)
  have e1 := Int.emod_lt_of_pos at' hL
  conv => whnf
  refine (header_s _ _ (by first | omega | (have q := tmod_neg hL hh21; rw [q, w64 _ (by omega) (by omega)]; omega) | (have q := tmod_pos (v := at') hL (by omega); omega) | assumption | decide | simp) (by first | omega | (have q := tmod_neg hL hh21; rw [q, w64 _ (by omega) (by omega)]; omega) | (have q := tmod_pos (v := at') hL (by omega); omega) | assumption | decide | simp)).call [0] (by decide) trivial (And.intro rfl trivial) ?_
  rintro _ _ ⟨rfl, rfl⟩
  conv => whnf
  refine (formatX_s _ _).call ?_
  rintro _ rfl
  conv => whnf
  refine both_f rfl ?_
  conv => whnf
  refine both_f rfl ?_
  conv => whnf
  refine ⟨by omega, ?_⟩
  conv => whnf
  refine CallG.of_code tab_ok Try.func14 (by rfl) rfl ?_
  conv => whnf
  refine CallG.of_code tab_ok Try.func17 (by rfl) rfl ?_
  conv => whnf
  refine DrawG.of mixed tab_ok ?_
  conv => whnf
  refine ⟨by kernel_rfl, ?_⟩
  conv => whnf
  refine both_t rfl ?_
  conv => whnf
  refine DrawG.of mixed tab_ok ?_
  conv => whnf
  refine ⟨by simp, ?_⟩
  conv => whnf
  refine ⟨_, rfl, ?_⟩
  conv => whnf
  refine ⟨by kernel_rfl, ?_⟩
  conv => whnf
  refine both_f rfl ?_
  conv => whnf
  refine ⟨by omega, ?_⟩
  conv => whnf
  refine ⟨fun hh21 => ?_, fun hh21 => ?_⟩
  · simp only [decide_eq_true_eq, decide_eq_false_iff_not] at hh21
    conv => whnf
    refine ⟨by (have q := tmod_neg hL hh21; rw [q, w64 _ (by omega) (by omega)]; omega), ?_⟩
    conv => whnf
    (refine ⟨_, recX_row ls 0 _ (by have q := tmod_neg hL hh21; rw [q, w64 _ (by omega) (by omega)]; omega), ?_⟩)
    conv => whnf
    refine ⟨by (have q := tmod_neg hL hh21; rw [q, w64 _ (by omega) (by omega)]; omega), ?_⟩
    conv => whnf
    (refine ⟨_, recX_row ls 0 _ (by have q := tmod_neg hL hh21; rw [q, w64 _ (by omega) (by omega)]; omega), ?_⟩)
    conv => whnf
    refine ⟨fun hh24 => ?_, fun hh24 => ?_⟩
    · simp only [decide_eq_true_eq, decide_eq_false_iff_not] at hh24
      conv => whnf
      refine (awake8_s).call ?_
      rintro _ rfl
      conv => whnf
    · simp only [decide_eq_true_eq, decide_eq_false_iff_not] at hh24
      conv => whnf
      refine ⟨fun hh35 => ?_, fun hh35 => ?_⟩
      · simp only [decide_eq_true_eq, decide_eq_false_iff_not] at hh35
        conv => whnf
        refine ⟨fun hh36 => ?_, fun hh36 => ?_⟩
        · simp only [decide_eq_true_eq, decide_eq_false_iff_not] at hh36
          conv => whnf
          refine (awake8_s).call ?_
          rintro _ rfl
          conv => whnf
        · simp only [decide_eq_true_eq, decide_eq_false_iff_not] at hh36
          conv => whnf
          refine ⟨fun hh47 => ?_, fun hh47 => ?_⟩
          · simp only [decide_eq_true_eq, decide_eq_false_iff_not] at hh47
            conv => whnf
            refine both_t (by simp; omega) ?_
            conv => whnf
            refine (awake8_s).call ?_
            rintro _ rfl
            conv => whnf
          · simp only [decide_eq_true_eq, decide_eq_false_iff_not] at hh47
            conv => whnf
            (refine ⟨_, row_set b0 b1, ?_⟩)
            conv => whnf
            refine (bad_s _ _ _ (by first | omega | (have q := tmod_neg hL hh21; rw [q, w64 _ (by omega) (by omega)]; omega) | (have q := tmod_pos (v := at') hL (by omega); omega) | assumption | decide | simp) (by first | omega | (have q := tmod_neg hL hh21; rw [q, w64 _ (by omega) (by omega)]; omega) | (have q := tmod_pos (v := at') hL (by omega); omega) | assumption | decide | simp) (by first | omega | (have q := tmod_neg hL hh21; rw [q, w64 _ (by omega) (by omega)]; omega) | (have q := tmod_pos (v := at') hL (by omega); omega) | assumption | decide | simp) (by first | omega | (have q := tmod_neg hL hh21; rw [q, w64 _ (by omega) (by omega)]; omega) | (have q := tmod_pos (v := at') hL (by omega); omega) | assumption | decide | simp) (by first | omega | (have q := tmod_neg hL hh21; rw [q, w64 _ (by omega) (by omega)]; omega) | (have q := tmod_pos (v := at') hL (by omega); omega) | assumption | decide | simp) (by first | omega | (have q := tmod_neg hL hh21; rw [q, w64 _ (by omega) (by omega)]; omega) | (have q := tmod_pos (v := at') hL (by omega); omega) | assumption | decide | simp)).call ?_
            rintro _ ⟨u59, rfl, g60⟩
            conv => whnf
            refine both_t (by simp; omega) ?_
            conv => whnf
            refine both_t rfl ?_
            conv => whnf
            refine (awake8_s).call ?_
            rintro _ rfl
            conv => whnf
      · simp only [decide_eq_true_eq, decide_eq_false_iff_not] at hh35
        conv => whnf
        refine ⟨fun hh79 => ?_, fun hh79 => ?_⟩
        · simp only [decide_eq_true_eq, decide_eq_false_iff_not] at hh79
          conv => whnf
          refine ⟨fun hh80 => ?_, fun hh80 => ?_⟩
          · simp only [decide_eq_true_eq, decide_eq_false_iff_not] at hh80
            conv => whnf
            refine (awake8_s).call ?_
            rintro _ rfl
            conv => whnf
          · simp only [decide_eq_true_eq, decide_eq_false_iff_not] at hh80
            conv => whnf
            (refine ⟨_, row_set b0 b1, ?_⟩)
            conv => whnf
            refine (bad_s _ _ _ (by first | omega | (have q := tmod_neg hL hh21; rw [q, w64 _ (by omega) (by omega)]; omega) | (have q := tmod_pos (v := at') hL (by omega); omega) | assumption | decide | simp) (by first | omega | (have q := tmod_neg hL hh21; rw [q, w64 _ (by omega) (by omega)]; omega) | (have q := tmod_pos (v := at') hL (by omega); omega) | assumption | decide | simp) (by first | omega | (have q := tmod_neg hL hh21; rw [q, w64 _ (by omega) (by omega)]; omega) | (have q := tmod_pos (v := at') hL (by omega); omega) | assumption | decide | simp) (by first | omega | (have q := tmod_neg hL hh21; rw [q, w64 _ (by omega) (by omega)]; omega) | (have q := tmod_pos (v := at') hL (by omega); omega) | assumption | decide | simp) (by first | omega | (have q := tmod_neg hL hh21; rw [q, w64 _ (by omega) (by omega)]; omega) | (have q := tmod_pos (v := at') hL (by omega); omega) | assumption | decide | simp) (by first | omega | (have q := tmod_neg hL hh21; rw [q, w64 _ (by omega) (by omega)]; omega) | (have q := tmod_pos (v := at') hL (by omega); omega) | assumption | decide | simp)).call ?_
            rintro _ ⟨u92, rfl, g93⟩
            conv => whnf
            refine both_t (by simp; omega) ?_
            conv => whnf
            refine both_t rfl ?_
            conv => whnf
            refine (awake8_s).call ?_
            rintro _ rfl
            conv => whnf
        · simp only [decide_eq_true_eq, decide_eq_false_iff_not] at hh79
          conv => whnf
          (refine ⟨_, row_set b0 b1, ?_⟩)
          conv => whnf
          refine (bad_s _ _ _ (by first | omega | (have q := tmod_neg hL hh21; rw [q, w64 _ (by omega) (by omega)]; omega) | (have q := tmod_pos (v := at') hL (by omega); omega) | assumption | decide | simp) (by first | omega | (have q := tmod_neg hL hh21; rw [q, w64 _ (by omega) (by omega)]; omega) | (have q := tmod_pos (v := at') hL (by omega); omega) | assumption | decide | simp) (by first | omega | (have q := tmod_neg hL hh21; rw [q, w64 _ (by omega) (by omega)]; omega) | (have q := tmod_pos (v := at') hL (by omega); omega) | assumption | decide | simp) (by first | omega | (have q := tmod_neg hL hh21; rw [q, w64 _ (by omega) (by omega)]; omega) | (have q := tmod_pos (v := at') hL (by omega); omega) | assumption | decide | simp) (by first | omega | (have q := tmod_neg hL hh21; rw [q, w64 _ (by omega) (by omega)]; omega) | (have q := tmod_pos (v := at') hL (by omega); omega) | assumption | decide | simp) (by first | omega | (have q := tmod_neg hL hh21; rw [q, w64 _ (by omega) (by omega)]; omega) | (have q := tmod_pos (v := at') hL (by omega); omega) | assumption | decide | simp)).call ?_
          rintro _ ⟨u113, rfl, g114⟩
          conv => whnf
          refine both_t (by simp; omega) ?_
          conv => whnf
          refine both_t rfl ?_
          conv => whnf
          refine (awake8_s).call ?_
          rintro _ rfl
          conv => whnf
  · simp only [decide_eq_true_eq, decide_eq_false_iff_not] at hh21
    conv => whnf
    refine ⟨by (have q := tmod_pos (v := at') hL (by omega); omega), ?_⟩
    conv => whnf
    (refine ⟨_, recX_row ls 0 _ (by have q := tmod_pos (v := at') hL (by omega); omega), ?_⟩)
    conv => whnf
    refine ⟨by (have q := tmod_pos (v := at') hL (by omega); omega), ?_⟩
    conv => whnf
    (refine ⟨_, recX_row ls 0 _ (by have q := tmod_pos (v := at') hL (by omega); omega), ?_⟩)
    conv => whnf
    refine ⟨fun hh135 => ?_, fun hh135 => ?_⟩
    · simp only [decide_eq_true_eq, decide_eq_false_iff_not] at hh135
      conv => whnf
      refine (awake8_s).call ?_
      rintro _ rfl
      conv => whnf
    · simp only [decide_eq_true_eq, decide_eq_false_iff_not] at hh135
      conv => whnf
      refine ⟨fun hh146 => ?_, fun hh146 => ?_⟩
      · simp only [decide_eq_true_eq, decide_eq_false_iff_not] at hh146
        conv => whnf
        refine ⟨fun hh147 => ?_, fun hh147 => ?_⟩
        · simp only [decide_eq_true_eq, decide_eq_false_iff_not] at hh147
          conv => whnf
          refine (awake8_s).call ?_
          rintro _ rfl
          conv => whnf
        · simp only [decide_eq_true_eq, decide_eq_false_iff_not] at hh147
          conv => whnf
          refine ⟨fun hh158 => ?_, fun hh158 => ?_⟩
          · simp only [decide_eq_true_eq, decide_eq_false_iff_not] at hh158
            conv => whnf
            refine both_t (by simp; omega) ?_
            conv => whnf
            refine (awake8_s).call ?_
            rintro _ rfl
            conv => whnf
          · simp only [decide_eq_true_eq, decide_eq_false_iff_not] at hh158
            conv => whnf
            (refine ⟨_, row_set b0 b1, ?_⟩)
            conv => whnf
            refine (bad_s _ _ _ (by first | omega | (have q := tmod_neg hL hh21; rw [q, w64 _ (by omega) (by omega)]; omega) | (have q := tmod_pos (v := at') hL (by omega); omega) | assumption | decide | simp) (by first | omega | (have q := tmod_neg hL hh21; rw [q, w64 _ (by omega) (by omega)]; omega) | (have q := tmod_pos (v := at') hL (by omega); omega) | assumption | decide | simp) (by first | omega | (have q := tmod_neg hL hh21; rw [q, w64 _ (by omega) (by omega)]; omega) | (have q := tmod_pos (v := at') hL (by omega); omega) | assumption | decide | simp) (by first | omega | (have q := tmod_neg hL hh21; rw [q, w64 _ (by omega) (by omega)]; omega) | (have q := tmod_pos (v := at') hL (by omega); omega) | assumption | decide | simp) (by first | omega | (have q := tmod_neg hL hh21; rw [q, w64 _ (by omega) (by omega)]; omega) | (have q := tmod_pos (v := at') hL (by omega); omega) | assumption | decide | simp) (by first | omega | (have q := tmod_neg hL hh21; rw [q, w64 _ (by omega) (by omega)]; omega) | (have q := tmod_pos (v := at') hL (by omega); omega) | assumption | decide | simp)).call ?_
            rintro _ ⟨u170, rfl, g171⟩
            conv => whnf
            refine both_t (by simp; omega) ?_
            conv => whnf
            refine both_t rfl ?_
            conv => whnf
            refine (awake8_s).call ?_
            rintro _ rfl
            conv => whnf
      · simp only [decide_eq_true_eq, decide_eq_false_iff_not] at hh146
        conv => whnf
        refine ⟨fun hh190 => ?_, fun hh190 => ?_⟩
        · simp only [decide_eq_true_eq, decide_eq_false_iff_not] at hh190
          conv => whnf
          refine ⟨fun hh191 => ?_, fun hh191 => ?_⟩
          · simp only [decide_eq_true_eq, decide_eq_false_iff_not] at hh191
            conv => whnf
            refine (awake8_s).call ?_
            rintro _ rfl
            conv => whnf
          · simp only [decide_eq_true_eq, decide_eq_false_iff_not] at hh191
            conv => whnf
            (refine ⟨_, row_set b0 b1, ?_⟩)
            conv => whnf
            refine (bad_s _ _ _ (by first | omega | (have q := tmod_neg hL hh21; rw [q, w64 _ (by omega) (by omega)]; omega) | (have q := tmod_pos (v := at') hL (by omega); omega) | assumption | decide | simp) (by first | omega | (have q := tmod_neg hL hh21; rw [q, w64 _ (by omega) (by omega)]; omega) | (have q := tmod_pos (v := at') hL (by omega); omega) | assumption | decide | simp) (by first | omega | (have q := tmod_neg hL hh21; rw [q, w64 _ (by omega) (by omega)]; omega) | (have q := tmod_pos (v := at') hL (by omega); omega) | assumption | decide | simp) (by first | omega | (have q := tmod_neg hL hh21; rw [q, w64 _ (by omega) (by omega)]; omega) | (have q := tmod_pos (v := at') hL (by omega); omega) | assumption | decide | simp) (by first | omega | (have q := tmod_neg hL hh21; rw [q, w64 _ (by omega) (by omega)]; omega) | (have q := tmod_pos (v := at') hL (by omega); omega) | assumption | decide | simp) (by first | omega | (have q := tmod_neg hL hh21; rw [q, w64 _ (by omega) (by omega)]; omega) | (have q := tmod_pos (v := at') hL (by omega); omega) | assumption | decide | simp)).call ?_
            rintro _ ⟨u203, rfl, g204⟩
            conv => whnf
            refine both_t (by simp; omega) ?_
            conv => whnf
            refine both_t rfl ?_
            conv => whnf
            refine (awake8_s).call ?_
            rintro _ rfl
            conv => whnf
        · simp only [decide_eq_true_eq, decide_eq_false_iff_not] at hh190
          conv => whnf
          (refine ⟨_, row_set b0 b1, ?_⟩)
          conv => whnf
          refine (bad_s _ _ _ (by first | omega | (have q := tmod_neg hL hh21; rw [q, w64 _ (by omega) (by omega)]; omega) | (have q := tmod_pos (v := at') hL (by omega); omega) | assumption | decide | simp) (by first | omega | (have q := tmod_neg hL hh21; rw [q, w64 _ (by omega) (by omega)]; omega) | (have q := tmod_pos (v := at') hL (by omega); omega) | assumption | decide | simp) (by first | omega | (have q := tmod_neg hL hh21; rw [q, w64 _ (by omega) (by omega)]; omega) | (have q := tmod_pos (v := at') hL (by omega); omega) | assumption | decide | simp) (by first | omega | (have q := tmod_neg hL hh21; rw [q, w64 _ (by omega) (by omega)]; omega) | (have q := tmod_pos (v := at') hL (by omega); omega) | assumption | decide | simp) (by first | omega | (have q := tmod_neg hL hh21; rw [q, w64 _ (by omega) (by omega)]; omega) | (have q := tmod_pos (v := at') hL (by omega); omega) | assumption | decide | simp) (by first | omega | (have q := tmod_neg hL hh21; rw [q, w64 _ (by omega) (by omega)]; omega) | (have q := tmod_pos (v := at') hL (by omega); omega) | assumption | decide | simp)).call ?_
          rintro _ ⟨u224, rfl, g225⟩
          conv => whnf
          refine both_t (by simp; omega) ?_
          conv => whnf
          refine both_t rfl ?_
          conv => whnf
          refine (awake8_s).call ?_
          rintro _ rfl
          conv => whnf
theorem packetParse_s (ls : List Int) (s : List UInt8) (hs : s.length ≤ 9223372036854775807) : PSpec Try.prog 4 [.rs 1 (nums ls), .str s] TrueS := by
  refine .of_code' tab_ok Try.func4 (by rfl) rfl trivial ?_
  conv => whnf
  refine CallG.of_code tab_ok Try.func14 (by rfl) rfl ?_
  conv => whnf
  refine LoopG.inv tab_ok 93 (fun x : { x : Int × Nat // 0 ≤ x.1 ∧ x.1 ≤ 10 * (x.2 : Int) ∧ x.2 ≤ 5 } => [(1, .str s), (5, .ptr 0 0), (6, .int .i64 (x.1.2 : Int))])
    (fun x => [chs ls x.1.1]) (fun x => 5 - x.1.2) ⟨(0, 0), by simp⟩ (.of [some 0] (by rfl) ?_) ?_
  · conv => whnf
    refine ⟨by rfl, ?_⟩
    conv => whnf
    refine ⟨by rfl, ?_⟩
    conv => whnf
    refine ⟨by rfl, ?_⟩
    conv => whnf
    refine ⟨by rfl, ?_⟩
    conv => whnf
    exact trivial
  · intro x
    have hx := x.2
    have hl := recX_len ls x.1.1
    conv => whnf
    refine ⟨fun hb => ?_, fun hb => ?_⟩
    · have hb : x.1.2 < 5 := by simp only [decide_eq_true_eq] at hb; omega
      conv => whnf
      refine (header_s ls x.1.1 (by omega) (by omega)).call [0] (by decide) trivial (And.intro rfl trivial) ?_
      rintro _ _ ⟨rfl, rfl⟩
      conv => whnf
      refine (rformatX_s _ _).call ?_
      rintro _ rfl
      conv => whnf
      refine ⟨by omega, ?_⟩
      conv => whnf
      have hm : ((recD (hdX ls x.1.1)).map byteCell).length = (recD (hdX ls x.1.1)).length := List.length_map ..
      have n0 := nxt_lo ls (x.1.1 + 5) (((recD (hdX ls x.1.1)).map byteCell).length : Int)
      have n1 := nxt_hi ls (x.1.1 + 5) (((recD (hdX ls x.1.1)).map byteCell).length : Int) (by omega)
      have m0 := nxt_lo ls (x.1.1 + 5 + 1) 255
      have m1 := nxt_hi ls (x.1.1 + 5 + 1) 255 (by omega)
      have k0 := nxt_lo ls (x.1.1 + 5 + 1 + 1) ((recD (hdX ls x.1.1)).length : Int)
      have k1 := nxt_hi ls (x.1.1 + 5 + 1 + 1) ((recD (hdX ls x.1.1)).length : Int) (by omega)
      refine DrawG.xg ?_
      conv => whnf
      refine DrawG.of mixed tab_ok ?_
      conv => whnf
      refine (next_s _ _ _ (by first | omega | (simp only [List.length_set, List.length_take, List.length_drop, List.length_append, two_len]; omega) | (simp; omega) | assumption | decide | simp) (by first | omega | (simp only [List.length_set, List.length_take, List.length_drop, List.length_append, two_len]; omega) | (simp; omega) | assumption | decide | simp) (by first | omega | (simp only [List.length_set, List.length_take, List.length_drop, List.length_append, two_len]; omega) | (simp; omega) | assumption | decide | simp)).calld [0] (by decide) rfl (And.intro rfl trivial) (And.intro rfl trivial) ?_
      conv => whnf
      refine ⟨by omega, ?_⟩
      conv => whnf
      refine ⟨_, recX_row ls x.1.1 _ (by omega), ?_⟩
      conv => whnf
      refine (next_s _ _ _ (by first | omega | (simp only [List.length_set, List.length_take, List.length_drop, List.length_append, two_len]; omega) | (simp; omega) | assumption | decide | simp) (by first | omega | (simp only [List.length_set, List.length_take, List.length_drop, List.length_append, two_len]; omega) | (simp; omega) | assumption | decide | simp) (by first | omega | (simp only [List.length_set, List.length_take, List.length_drop, List.length_append, two_len]; omega) | (simp; omega) | assumption | decide | simp)).calld [0] (by decide) rfl (And.intro rfl trivial) (And.intro rfl trivial) ?_
      conv => whnf
      refine ⟨by omega, ?_⟩
      conv => whnf
      refine ⟨_, recX_row ls x.1.1 _ (by omega), ?_⟩
      conv => whnf
      refine ⟨by kernel_rfl, ?_⟩
      conv => whnf
      (refine XG.freeze 1 ?_; (conv => whnf); refine XG.same ?_)
      conv => whnf
      refine (parses_s _ (by first | omega | (simp only [List.length_set, List.length_take, List.length_drop, List.length_append, two_len]; omega) | (simp; omega) | assumption | decide | simp)).call ?_
      rintro _ rfl
      conv => whnf
      refine both_f rfl ?_
      conv => whnf
      (refine ⟨_, row_set (wrap8 _).1 (wrap8 _).2, ?_⟩)
      conv => whnf
      refine (parses_s _ (by first | omega | (simp only [List.length_set, List.length_take, List.length_drop, List.length_append, two_len]; omega) | (simp; omega) | assumption | decide | simp)).call ?_
      rintro _ rfl
      conv => whnf
      refine both_f rfl ?_
      conv => whnf
      refine ⟨by (simp only [List.length_set]; rw [w64 _ (by omega) (by omega)]; omega), ?_⟩
      conv => whnf
      (refine ⟨_, row_cut (wrap8 _).1 (wrap8 _).2, ?_⟩)
      conv => whnf
      refine (sealed_s _ (by first | omega | (simp only [List.length_set, List.length_take, List.length_drop, List.length_append, two_len]; omega) | (simp; omega) | assumption | decide | simp)).call ?_
      rintro _ rfl
      conv => whnf
      refine (parses_s _ (by first | omega | (simp only [List.length_set, List.length_take, List.length_drop, List.length_append, two_len]; omega) | (simp; omega) | assumption | decide | simp)).call ?_
      rintro _ rfl
      conv => whnf
      refine both_f rfl ?_
      conv => whnf
      refine (next_s _ _ _ (by first | omega | (simp only [List.length_set, List.length_take, List.length_drop, List.length_append, two_len]; omega) | (simp; omega) | assumption | decide | simp) (by first | omega | (simp only [List.length_set, List.length_take, List.length_drop, List.length_append, two_len]; omega) | (simp; omega) | assumption | decide | simp) (by first | omega | (simp only [List.length_set, List.length_take, List.length_drop, List.length_append, two_len]; omega) | (simp; omega) | assumption | decide | simp)).call [0] (by decide) (And.intro rfl trivial) (And.intro rfl trivial) ?_
      rintro _ _ ⟨rfl, rfl⟩
      conv => whnf
      refine ⟨by omega, ?_⟩
      conv => whnf
      refine (parses_s _ (by first | omega | (simp only [List.length_set, List.length_take, List.length_drop, List.length_append, two_len]; omega) | (simp; omega) | assumption | decide | simp)).call ?_
      rintro _ rfl
      conv => whnf
      refine both_f rfl ?_
      conv => whnf
      refine ⟨by simp; omega, ?_⟩
      conv => whnf
      refine (parses_s _ (by first | omega | (simp only [List.length_set, List.length_take, List.length_drop, List.length_append, two_len]; omega) | (simp; omega) | assumption | decide | simp)).call ?_
      rintro _ rfl
      conv => whnf
      refine both_f rfl ?_
      conv => whnf
      (refine ⟨⟨(x.1.1 + 8, x.1.2 + 1), by show 0 ≤ x.1.1 + 8 ∧ x.1.1 + 8 ≤ 10 * ((x.1.2 + 1 : Nat) : Int) ∧ x.1.2 + 1 ≤ 5; omega⟩, by show 5 - (x.1.2 + 1) < 5 - x.1.2; omega, .of [some 0] (by rfl) ?_⟩)
      conv => whnf
      refine ⟨by rfl, ?_⟩
      conv => whnf
      refine ⟨by exact (w64 _ (by omega) (by omega)).trans (by simp), ?_⟩
      conv => whnf
      refine ⟨by rfl, ?_⟩
      conv => whnf
      refine ⟨by simp; omega, ?_⟩
      conv => whnf
      exact trivial
    · conv => whnf
      refine .same ?_
      conv => whnf
      refine ⟨fun hh0 => ?_, fun hh0 => ?_⟩
      · simp only [decide_eq_true_eq, decide_eq_false_iff_not] at hh0
        conv => whnf
      · simp only [decide_eq_true_eq, decide_eq_false_iff_not] at hh0
        conv => whnf
        refine (parses_s _ (by first | omega | (simp [two_len]; omega) | assumption | decide | simp)).call ?_
        rintro _ rfl
        conv => whnf
        refine both_t rfl ?_
        conv => whnf
        refine (sealed_s _ (by first | omega | (simp [two_len]; omega) | assumption | decide | simp)).call ?_
        rintro _ rfl
        conv => whnf
        refine (parses_s _ (by first | omega | (simp [two_len]; omega) | assumption | decide | simp)).call ?_
        rintro _ rfl
        conv => whnf
        refine both_t rfl ?_
        conv => whnf
        refine ⟨by simp; omega, ?_⟩
        conv => whnf
        refine (parses_s _ (by first | omega | (simp [two_len]; omega) | assumption | decide | simp)).call ?_
        rintro _ rfl
        conv => whnf
        refine both_t rfl ?_
        conv => whnf
        refine (awake8_s).call ?_
        rintro _ rfl
        conv => whnf
theorem packetRoundTripL (ls : List Int) (s : { s : List UInt8 // s.length ≤ 9223372036854775807 }) : PSpec Try.prog 5 [.rs 1 (nums ls), .str s.1] TrueS := packetRoundTrip_s ls s.1 s.2
theorem packetParseL (ls : List Int) (s : { s : List UInt8 // s.length ≤ 9223372036854775807 }) : PSpec Try.prog 4 [.rs 1 (nums ls), .str s.1] TrueS := packetParse_s ls s.1 s.2
theorem packetDamageL (ls : List Int) (at' b : Int) (_ : -9223372036854775808 ≤ at') (_ : at' ≤ 9223372036854775807) (b0 : 0 ≤ b) (b1 : b ≤ 255) : PSpec Try.prog 6 [.rs 1 (nums ls), .int .i64 at', .int .u8 b] TrueS := packetDamage_s ls at' b b0 b1
end Go.Proofs.Ytdommpfnoiemkaa

/- Contracts of the choices' weights and lengths. No statement of the seat is proved here. -/
namespace Go.Proofs.Ytdommpfnoiemkaa
open Go.Sx
set_option linter.unusedSimpArgs false
set_option linter.unusedVariables false
theorem lit_get {l : List Int} {k : IntKind} {i : Int} (h0 : 0 ≤ i) (h1 : i < l.length) : (l.map fun z => [SV.int k z])[i.toNat]? = some [SV.int k (l.getD i.toNat 0)] := by
  have : i.toNat < l.length := by omega
  rw [List.getElem?_map, List.getElem?_eq_getElem this]
  simp [List.getD, List.getElem?_eq_getElem this]
def wts : List Int := [1, 2, 1, 3, 4, 16, 7, 1, 5]
def wex (ls : List Int) (at' : Int) : Int := wts.getD (nxt ls at' 9).toNat 0
theorem wex_rng (ls : List Int) (at' : Int) : 1 ≤ wex ls at' ∧ wex ls at' ≤ 16 := by
  have h0 := nxt_lo ls at' 9
  have h1 := nxt_hi ls at' 9 (by omega)
  have key : ∀ j : Nat, j < 9 → 1 ≤ wts.getD j 0 ∧ wts.getD j 0 ≤ 16 := by decide
  exact key _ (by omega)
theorem weight_s (ls : List Int) (at' : Int) (h0 : 0 ≤ at') (h1 : at' < 9223372036854775800) :
    OSpec Try.prog 105 [.ptr 0 0] [chs ls at'] fun s ho => s = .int .i64 (wex ls at') ∧ ho = [chs ls (at' + 1)] := by
  refine .of_code tab_ok Try.func105 (by rfl) rfl trivial ?_
  have n0 := nxt_lo ls at' 9
  have n1 := nxt_hi ls at' 9 (by omega)
  conv => whnf
  refine (next_s _ _ _ (by first | omega | assumption | decide | simp) (by first | omega | assumption | decide | simp) (by first | omega | assumption | decide | simp)).call [0] (by decide) (And.intro rfl trivial) (And.intro rfl trivial) ?_
  rintro _ _ ⟨rfl, rfl⟩
  conv => whnf
  refine ⟨by simp; omega, ?_⟩
  conv => whnf
  refine ⟨_, lit_get (l := wts) n0 n1, ?_⟩
  conv => whnf
  refine ⟨by rfl, ?_⟩
  conv => whnf
def lns : List Int := [100, 1, 60, 1500, 4096, 100, 700]
def lex (ls : List Int) (at' : Int) : Int := lns.getD (nxt ls at' 7).toNat 0
theorem lex_rng (ls : List Int) (at' : Int) : 1 ≤ lex ls at' ∧ lex ls at' ≤ 4096 := by
  have h0 := nxt_lo ls at' 7
  have h1 := nxt_hi ls at' 7 (by omega)
  have key : ∀ j : Nat, j < 7 → 1 ≤ lns.getD j 0 ∧ lns.getD j 0 ≤ 4096 := by decide
  exact key _ (by omega)
theorem length_s (ls : List Int) (at' : Int) (h0 : 0 ≤ at') (h1 : at' < 9223372036854775800) :
    OSpec Try.prog 58 [.ptr 0 0] [chs ls at'] fun s ho => s = .int .i64 (lex ls at') ∧ ho = [chs ls (at' + 1)] := by
  refine .of_code tab_ok Try.func58 (by rfl) rfl trivial ?_
  have n0 := nxt_lo ls at' 7
  have n1 := nxt_hi ls at' 7 (by omega)
  conv => whnf
  refine (next_s _ _ _ (by first | omega | assumption | decide | simp) (by first | omega | assumption | decide | simp) (by first | omega | assumption | decide | simp)).call [0] (by decide) (And.intro rfl trivial) (And.intro rfl trivial) ?_
  rintro _ _ ⟨rfl, rfl⟩
  conv => whnf
  refine ⟨by simp; omega, ?_⟩
  conv => whnf
  refine ⟨_, lit_get (l := lns) n0 n1, ?_⟩
  conv => whnf
  refine ⟨by rfl, ?_⟩
  conv => whnf
end Go.Proofs.Ytdommpfnoiemkaa

/- Chapter 27: drawn flags, names and arrivals. -/
namespace Go.Proofs.Ytdommpfnoiemkaa
open Go.Sx
set_option linter.unusedSimpArgs false
set_option linter.unusedVariables false
theorem gflags_s (ls : List Int) (a : Int) (n : Nat) (h0 : 0 ≤ a) (h1 : a < 9223372036854770000) (hn : n ≤ 1000) :
    OSpec Try.prog 90 [.ptr 0 0, .int .i64 (n : Int)] [chs ls a] fun v ho => ∃ fl : List Bool, v = .rs 1 (fl.map blE) ∧ ho = [chs ls (a + n)] ∧ fl.length = n := by
  refine .of_code tab_ok Try.func90 (by rfl) rfl trivial ?_
  conv => whnf
  refine LoopG.inv tab_ok 19 (fun x : { x : Nat × List Bool // x.1 ≤ n ∧ x.2.length = x.1 } => [(0, .ptr 0 0), (1, .int .i64 (n : Int)), (5, .sl 1), (6, .int .i64 (x.1.1 : Int))])
    (fun x => [chs ls (a + x.1.1), .row 4 1 (x.1.2.map blE)]) (fun x => n - x.1.1) ⟨(0, []), by show 0 ≤ n; omega, rfl⟩ (.of [some 0, none] (by rfl) ?_) ?_
  · conv => whnf
    refine ⟨by rfl, ?_⟩
    conv => whnf
    refine ⟨by rfl, ?_⟩
    conv => whnf
    refine ⟨by rfl, ?_⟩
    conv => whnf
    refine ⟨by simp, ?_⟩
    conv => whnf
    refine ⟨by rfl, ?_⟩
    conv => whnf
    exact trivial
  · intro x
    obtain ⟨⟨i, fl⟩, h2, h3⟩ := x
    have h2 : i ≤ n := h2
    have h3 : fl.length = i := h3
    have hm : (fl.map blE).length = i := by rw [List.length_map, h3]
    conv => whnf
    refine ⟨fun hb => ?_, fun hb => ?_⟩
    · have hb : i < n := by simp only [decide_eq_true_eq] at hb; omega
      conv => whnf
      refine (next_s _ _ _ (by first | omega | (dsimp only at *; omega) | assumption | decide | simp) (by first | omega | (dsimp only at *; omega) | assumption | decide | simp) (by first | omega | (dsimp only at *; omega) | assumption | decide | simp)).call [0] (by decide) (And.intro rfl trivial) (And.intro rfl trivial) ?_
      rintro _ _ ⟨rfl, rfl⟩
      conv => whnf
      refine ⟨by simp; omega, ?_⟩
      conv => whnf
      (dsimp only at *; refine ⟨⟨(i + 1, fl ++ [decide (0 < nxt ls (a + i) 4)]), by show i + 1 ≤ n; omega, by rw [List.length_append, h3]; rfl⟩, by show n - (i + 1) < n - i; omega, .of [some 0, some 3] (by rfl) ?_⟩)
      conv => whnf
      refine ⟨by rfl, ?_⟩
      conv => whnf
      refine ⟨by exact (w64 _ (by omega) (by omega)).trans (by simp), ?_⟩
      conv => whnf
      refine ⟨by rfl, ?_⟩
      conv => whnf
      refine ⟨by simp; omega, ?_⟩
      conv => whnf
      refine ⟨by simp, ?_⟩
      conv => whnf
      exact trivial
    · have hb : i = n := by simp only [decide_eq_false_iff_not] at hb; omega
      conv => whnf
      refine .same ?_
      conv => whnf
      (dsimp only at *; exact ⟨fl, rfl, by rw [hb], by rw [h3, hb]⟩)
def stnL : List (List UInt8) := [[97], [97, 110, 110], [98, 45, 49], [122, 57]]
theorem stn_ok : ∀ k, k < 4 → nameOk (stnL.getD k []) = true := by decide +kernel
theorem gstn_s (i : Int) (h0 : 0 ≤ i) (h1 : i ≤ 9223372036854775807) : PSpec Try.prog 104 [.int .i64 i] fun v => ∃ st : List UInt8, v = .str st ∧ nameOk st = true := by
  refine .of_code' tab_ok Try.func104 (by rfl) rfl trivial ?_
  have e : i.tmod 4 = i % 4 := tmod_pos (by omega) (by rw [Int.tmod_eq_emod_of_nonneg h0]; omega)
  have hk : (i % 4).toNat < 4 := by omega
  conv => whnf
  rw [e]
  conv => whnf
  refine ⟨by omega, ?_⟩
  conv => whnf
  refine ⟨by simp; omega, ?_⟩
  conv => whnf
  refine ⟨_, gg_get (l := stnL) (by omega) (by show i % 4 < 4; omega), ?_⟩
  conv => whnf
  refine ⟨_, rfl, ?_⟩
  conv => whnf
  (exact stn_ok _ hk)
abbrev evN (k a b c : Int) (s : List UInt8) : List SV := [.int .i64 k, .int .i64 a, .int .i64 b, .int .i64 c, .str s, .nils]
theorem hd_in {st : List UInt8} {f l t : Int} (hs : nameOk st = true) (f0 : 0 ≤ f) (f1 : f ≤ 65535) (l0 : 1 ≤ l) (l1 : l ≤ 4096) (t0 : 0 ≤ t) (t1 : t ≤ 65535) : hdOk ⟨st, 0, f, l, t⟩ = true :=
  hdOk_t hs ⟨by show (0 : Int) ≤ 0; omega, by show (0 : Int) ≤ 7; omega, f0, f1, l0, l1, t0, t1⟩
def lfL : List Int := [0, 0, 0, 1, 4]
theorem fmtN_s {st : List UInt8} {f l t : Int} (hs : nameOk st = true) (f0 : 0 ≤ f) (f1 : f ≤ 65535) (l0 : 1 ≤ l) (l1 : l ≤ 4096) (t0 : 0 ≤ t) (t1 : t ≤ 65535) : PSpec Try.prog 20 [.agg [.str st, .int .i64 0, .int .i64 f, .int .i64 l, .int .i64 t]] fun v => ∃ x : List UInt8, v = .tup [.str x, .int .i64 0] ∧ 12 ≤ x.length ∧ x.length ≤ 300 := by
  have hl := nameOk_len hs
  refine (rformat_s ⟨st, 0, f, l, t⟩ (by show st.length ≤ 1000; omega)).mono fun v hv => ?_
  rw [fmt_ok (hd_in hs f0 f1 l0 l1 t0 t1)] at hv
  refine ⟨_, hv, ?_, ?_⟩
  all_goals (unfold recD recB twoB; simp only [List.length_append, List.length_cons, List.length_nil]; omega)
end Go.Proofs.Ytdommpfnoiemkaa

/- Chapter 27: drawn arrivals. -/
namespace Go.Proofs.Ytdommpfnoiemkaa
open Go.Sx
set_option linter.unusedSimpArgs false
set_option linter.unusedVariables false
def wdP (st : Nat) (fl : List Int) : Prop := st ≤ 3 ∧ 1 ≤ fl.length ∧ fl.length ≤ 4 ∧ ∀ x ∈ fl, 0 ≤ x ∧ x ≤ 3
abbrev wdE (st : Nat) (fl : List Int) : SV := .agg [.int .i64 (st : Int), .rs 1 (nums fl)]
theorem garr_s (ls : List Int) (a : Int) (st : Nat) (fl : List Int) (hw : wdP st fl) (h0 : 0 ≤ a) (h1 : a < 9223372036854770000) :
    OSpec Try.prog 91 [.ptr 0 0, wdE st fl] [chs ls a] fun v ho => ∃ (s : List UInt8) (a' : Int), v = .agg (evN 2 0 0 0 s) ∧ ho = [chs ls a'] ∧ a ≤ a' ∧ a' ≤ a + 5 ∧ s.length ≤ 300 := by
  refine .of_code tab_ok Try.func91 (by rfl) rfl trivial ?_
  obtain ⟨w0, w1, w2, w3⟩ := hw
  have hl : (nums fl).length = fl.length := nums_len fl
  have n0 := nxt_lo ls a fl.length
  have n1 := nxt_hi ls a fl.length (by omega)
  have g := getD_all (l := fl) (p := fun x => 0 ≤ x ∧ x ≤ 3) w3 n0 n1
  have m0 := nxt_lo ls (a + 1) 7
  have m1 := nxt_hi ls (a + 1) 7 (by omega)
  have l := getD_all (l := glL) (p := fun x => 1 ≤ x ∧ x ≤ 4096) (by decide) m0 m1
  have k0 := nxt_lo ls (a + 1 + 1) 5
  have k1 := nxt_hi ls (a + 1 + 1) 5 (by omega)
  have t := getD_all (l := lfL) (p := fun x => 0 ≤ x ∧ x ≤ 65535) (by decide) k0 k1
  have q0 := nxt_lo ls (a + 1 + 1 + 1 + 1) 3
  have q1 := nxt_hi ls (a + 1 + 1 + 1 + 1) 3 (by omega)
  conv => whnf
  rw [hl]
  conv => whnf
  refine (next_s _ _ _ (by first | omega | assumption | decide | simp) (by first | omega | assumption | decide | simp) (by first | omega | assumption | decide | simp)).call [0] (by decide) (And.intro rfl trivial) (And.intro rfl trivial) ?_
  rintro _ _ ⟨rfl, rfl⟩
  conv => whnf
  refine ⟨by omega, ?_⟩
  conv => whnf
  refine ⟨_, gl_get (l := fl) n0 n1, ?_⟩
  conv => whnf
  refine (gstn_s _ (by first | omega | assumption | decide | simp) (by first | omega | assumption | decide | simp)).call ?_
  rintro _ ⟨u11, rfl, g12⟩
  conv => whnf
  refine (glen_s _ _ (by first | omega | assumption | decide | simp) (by first | omega | assumption | decide | simp)).call [0] (by decide) trivial (And.intro rfl trivial) ?_
  rintro _ _ ⟨rfl, rfl⟩
  conv => whnf
  refine (next_s _ _ _ (by first | omega | assumption | decide | simp) (by first | omega | assumption | decide | simp) (by first | omega | assumption | decide | simp)).call [0] (by decide) (And.intro rfl trivial) (And.intro rfl trivial) ?_
  rintro _ _ ⟨rfl, rfl⟩
  conv => whnf
  refine ⟨by simp; omega, ?_⟩
  conv => whnf
  refine ⟨_, gl_get (l := lfL) k0 k1, ?_⟩
  conv => whnf
  refine (fmtN_s (by first | omega | assumption | decide | simp) (by first | omega | assumption | decide | simp) (by first | omega | assumption | decide | simp) (by first | omega | assumption | decide | simp) (by first | omega | assumption | decide | simp) (by first | omega | assumption | decide | simp) (by first | omega | assumption | decide | simp)).call ?_
  rintro _ ⟨u42, rfl, g43, g44⟩
  conv => whnf
  refine (next_s _ _ _ (by first | omega | assumption | decide | simp) (by first | omega | assumption | decide | simp) (by first | omega | assumption | decide | simp)).call [0] (by decide) (And.intro rfl trivial) (And.intro rfl trivial) ?_
  rintro _ _ ⟨rfl, rfl⟩
  conv => whnf
  refine ⟨fun hh62 => ?_, fun hh62 => ?_⟩
  · simp only [decide_eq_true_eq, decide_eq_false_iff_not] at hh62
    conv => whnf
    refine (next_s _ _ _ (by first | omega | assumption | decide | simp) (by first | omega | assumption | decide | simp) (by first | omega | assumption | decide | simp)).call [0] (by decide) (And.intro rfl trivial) (And.intro rfl trivial) ?_
    rintro _ _ ⟨rfl, rfl⟩
    conv => whnf
    refine ⟨by (rw [w64 ((u42.length : Int) - 1) (by omega) (by omega), w64 _ (by omega) (by omega)]; omega), ?_⟩
    conv => whnf
    exact ⟨_, _, rfl, rfl, by omega, by omega, by simp only [List.length_drop, List.length_take]; omega⟩
  · simp only [decide_eq_true_eq, decide_eq_false_iff_not] at hh62
    conv => whnf
    exact ⟨_, _, rfl, rfl, by omega, by omega, by omega⟩
end Go.Proofs.Ytdommpfnoiemkaa

/- Chapter 27: the beginning of a drawn script. -/
namespace Go.Proofs.Ytdommpfnoiemkaa
open Go.Sx
set_option linter.unusedSimpArgs false
set_option linter.unusedVariables false
/-- Rows that stand for events. -/
def RwE (es : List (List SV)) (l : List Ev) : Prop := es.length = l.length ∧ ∀ (i : Nat) (r : List SV) (e : Ev), es[i]? = some r → l[i]? = some e → SLeL r (evE e)
theorem RwE.nil : RwE [] [] := ⟨rfl, by simp⟩
theorem RwE.app {es : List (List SV)} {l : List Ev} {r : List SV} {e : Ev} (h : RwE es l) (hr : SLeL r (evE e)) : RwE (es ++ [r]) (l ++ [e]) := by
  refine ⟨by simp [h.1], fun i r' e' h1 h2 => ?_⟩
  by_cases hi : i < es.length
  · rw [List.getElem?_append_left hi] at h1
    rw [List.getElem?_append_left (by rw [← h.1]; exact hi)] at h2
    exact h.2 i _ _ h1 h2
  · rw [List.getElem?_append_right (by omega)] at h1
    rw [List.getElem?_append_right (by rw [← h.1]; omega), ← h.1] at h2
    have : i - es.length = 0 := by
      have := (List.getElem?_eq_some_iff.1 h1).1
      simp at this; omega
    rw [this] at h1 h2
    simp at h1 h2
    subst h1; subst h2
    exact hr
theorem RwE.sle {es : List (List SV)} {l : List Ev} (h : RwE es l) : SLe (.rs 6 es) (.rs 6 (l.map evE)) :=
  .rs (by rw [h.1, List.length_map]) fun i e e' h1 h2 => by
    rw [List.getElem?_map, Option.map_eq_some_iff] at h2
    obtain ⟨x, h2, rfl⟩ := h2
    exact h.2 i e x h1 h2
theorem sle_evN (k a b c : Int) (s : List UInt8) : SLeL (evN k a b c s) (evE ⟨k, a, b, c, s, []⟩) :=
  .cons (.refl _) (.cons (.refl _) (.cons (.refl _) (.cons (.refl _) (.cons (.refl _) (.cons .nil .nil)))))
def RwP (n : Nat) (es : List (List SV)) : Prop := es.length = n ∧ ∃ l, RwE es l
theorem RwP.app {n : Nat} {es : List (List SV)} (h : RwP n es) (k a b c : Int) (s : List UInt8) : RwP (n + 1) (es ++ [evN k a b c s]) := by
  obtain ⟨h1, l, h2⟩ := h
  exact ⟨by simp [h1], _, h2.app (sle_evN k a b c s)⟩
set_option maxRecDepth 100000 in
set_option maxHeartbeats 8000000 in
theorem gbegin_s (ls : List Int) (a : Int) (h0 : 0 ≤ a) (h1 : a < 9223372036854770000) :
    GSpec Try.prog 89 [.ptr 0 0] [chs ls a] fun v ho => ∃ (es : List (List SV)) (n st : Nat) (fl : List Int) (a' : Int), v = .tup [.sl 1, .agg [.int .i64 (st : Int), .sl 2]] ∧ ho = [chs ls a', .row 74 6 es, .row 3 1 (nums fl)] ∧ RwP n es ∧ 1 ≤ n ∧ n ≤ 11 ∧ wdP st fl ∧ a ≤ a' ∧ a' ≤ a + 30 := by
  refine .of_code tab_ok Try.func89 (by rfl) rfl ?_
  have n0 := nxt_lo ls a 3
  have n1 := nxt_hi ls a 3 (by omega)
  obtain ⟨st, hst⟩ : ∃ st : Nat, (st : Int) = 1 + nxt ls a 3 := ⟨(1 + nxt ls a 3).toNat, by omega⟩
  have ws : IntKind.i64.wrap (1 + nxt ls a 3) = (st : Int) := by rw [w64 _ (by omega) (by omega)]; exact hst.symm
  conv => whnf
  refine (next_s _ _ _ (by first | omega | assumption | decide | simp) (by first | omega | assumption | decide | simp) (by first | omega | assumption | decide | simp)).call [0] (by decide) (And.intro rfl trivial) (And.intro rfl trivial) ?_
  rintro _ _ ⟨rfl, rfl⟩
  conv => whnf
  rw [ws]
  conv => whnf
  -- LOOP m=[chs ls a].length F=[SV.ptr 0 0, SV.undef, SV.nils, SV.ptr 1 0, SV.ptr 2 0, SV.nils, SV.int IntKind.i64 0, SV.undef, SV.ptr 0 0, SV.int IntKind.i64 (nxt ls a 3), SV.int IntKind.i64 ↑st, SV.agg [SV.int IntKind.i64 ↑st, SV.nils], SV.undef, SV.undef, SV.undef, SV.undef, SV.undef, SV.undef, SV.undef, SV.undef, SV.undef, SV.undef, SV.undef, SV.undef, SV.undef, SV.undef, SV.undef, SV.undef, SV.undef, SV.undef, SV.undef, SV.undef, SV.undef, SV.undef, SV.undef, SV.undef, SV.undef, SV.undef, SV.undef, SV.undef, SV.undef, SV.undef, SV.undef, SV.undef, SV.undef, SV.undef, SV.undef, SV.undef, SV.undef, SV.undef, SV.undef, ⋯] heap=[chs ls (a + 1), (1, Blk.fix 123 [SV.int IntKind.i64 0, SV.nils]).snd, (2, Blk.fix 123 [SV.int IntKind.i64 ↑st, SV.nils]).snd]
  have hs3 : st ≤ 3 := by omega
  have hs1 : 1 ≤ st := by omega
  refine LoopG.inv tab_ok 73 (fun x : { x : Nat × List (List SV) // x.1 ≤ st ∧ RwP x.1 x.2 } => [(0, .ptr 0 0), (3, .ptr 1 0), (4, .ptr 2 0), (5, .sl 3), (6, .int .i64 (x.1.1 : Int))])
    (fun x => [chs ls (a + 1 + 2 * x.1.1), .fix 123 [.int .i64 0, .nils], .fix 123 [.int .i64 (st : Int), .nils], .row 74 6 x.1.2]) (fun x => st - x.1.1) ⟨(0, []), by show 0 ≤ st; omega, ⟨rfl, [], .nil⟩⟩ (.of [some 0, some 1, some 2, none] (by rfl) ?_) ?_
  · conv => whnf
    refine ⟨by rfl, ?_⟩
    conv => whnf
    refine ⟨by rfl, ?_⟩
    conv => whnf
    refine ⟨by simp, ?_⟩
    conv => whnf
    refine ⟨by rfl, ?_⟩
    conv => whnf
    refine ⟨by rfl, ?_⟩
    conv => whnf
    refine ⟨by rfl, ?_⟩
    conv => whnf
    exact trivial
  · intro x
    obtain ⟨⟨i, es⟩, h2, h3⟩ := x
    have h2 : i ≤ st := h2
    have h3 : RwP i es := h3
    have hm : es.length = i := h3.1
    conv => whnf
    refine ⟨fun hb => ?_, fun hb => ?_⟩
    · have hb : i < st := by simp only [decide_eq_true_eq] at hb; omega
      conv => whnf
      refine (gstn_s _ (by first | omega | (dsimp only at *; omega) | assumption | decide | simp) (by first | omega | (dsimp only at *; omega) | assumption | decide | simp)).call ?_
      rintro _ ⟨u0, rfl, g1⟩
      conv => whnf
      refine (weight_s _ _ (by first | omega | (dsimp only at *; omega) | assumption | decide | simp) (by first | omega | (dsimp only at *; omega) | assumption | decide | simp)).call [0] (by decide) trivial (And.intro rfl trivial) ?_
      rintro _ _ ⟨rfl, rfl⟩
      conv => whnf
      refine (next_s _ _ _ (by first | omega | (dsimp only at *; omega) | assumption | decide | simp) (by first | omega | (dsimp only at *; omega) | assumption | decide | simp) (by first | omega | (dsimp only at *; omega) | assumption | decide | simp)).call [0] (by decide) (And.intro rfl trivial) (And.intro rfl trivial) ?_
      rintro _ _ ⟨rfl, rfl⟩
      conv => whnf
      refine ⟨by simp; omega, ?_⟩
      conv => whnf
      (dsimp only at *; refine ⟨⟨(i + 1, es ++ [evN 4 (wex ls (a + 1 + 2 * i)) (nxt ls (a + 1 + 2 * i + 1) 2) 0 u0]), by show i + 1 ≤ st; omega, h3.app _ _ _ _ _⟩, by show st - (i + 1) < st - i; omega, .of [some 0, some 1, some 2, some 5] (by rfl) ?_⟩)
      conv => whnf
      refine ⟨by exact (w64 _ (by omega) (by omega)).trans (by simp), ?_⟩
      conv => whnf
      refine ⟨by rfl, ?_⟩
      conv => whnf
      refine ⟨by simp; omega, ?_⟩
      conv => whnf
      refine ⟨by rfl, ?_⟩
      conv => whnf
      refine ⟨by rfl, ?_⟩
      conv => whnf
      refine ⟨by rfl, ?_⟩
      conv => whnf
      exact trivial
    · have hb : i = st := by simp only [decide_eq_false_iff_not] at hb; omega
      conv => whnf
      refine .same ?_
      conv => whnf
      -- LOOP m=[chs ls a].length F=[(0, SV.ptr 0 0).snd, SV.any, SV.any, (3, SV.ptr 1 0).snd, (4, SV.ptr 2 0).snd, (5, SV.sl 3).snd, (6, SV.int IntKind.i64 ↑⟨(i, es), ⋯⟩.val.fst).snd, SV.int IntKind.i64 0, SV.any, SV.any, SV.any, SV.any, (6, SV.int IntKind.i64 ↑⟨(i, es), ⋯⟩.val.fst).snd, SV.ptr 2 (0 + (0, 3, 1).fst), SV.int IntKind.i64 ↑st, SV.ff, SV.any, SV.any, SV.any, SV.any, SV.any, SV.any, SV.any, SV.any, SV.any, SV.any, SV.any, SV.any, SV.any, SV.any, SV.any, SV.any, SV.any, SV.any, SV.any, SV.any, SV.any, SV.any, SV.any, SV.any, SV.any, SV.any, SV.any, SV.any, SV.any, SV.any, SV.any, SV.any, SV.any, SV.any, SV.any, ⋯] heap=[chs ls (a + 1 + 2 * ↑⟨(i, es), ⋯⟩.val.fst), Blk.fix 123 [SV.int IntKind.i64 0, SV.nils], Blk.fix 123 [SV.int IntKind.i64 ↑st, SV.nils], Blk.row 74 6 ⟨(i, es), ⋯⟩.val.snd]
      have hst2 : RwP (st + 2 * 0) es := by rw [← hb]; exact h3
      dsimp only
      rw [hb]
      obtain ⟨b, hbb⟩ : ∃ b, b = a + 1 + 2 * (st : Int) := ⟨_, rfl⟩
      rw [← hbb]
      refine LoopG.inv tab_ok 73 (fun y : { y : Nat × List Int × List (List SV) // y.1 ≤ 4 ∧ y.2.1.length = y.1 ∧ (∀ x ∈ y.2.1, 0 ≤ x ∧ x ≤ 3) ∧ RwP (st + 2 * y.1) y.2.2 } => [(0, .ptr 0 0), (3, .ptr 1 0), (4, .ptr 2 0), (5, .sl 3), (7, .int .i64 (y.1.1 : Int))])
        (fun y => [chs ls (b + 3 * y.1.1), .fix 123 [.int .i64 0, .nils], .fix 123 [.int .i64 (st : Int), .sl 4], .row 74 6 y.1.2.2, .row 3 1 (nums y.1.2.1)]) (fun y => 4 - y.1.1) ⟨(0, [], es), by show 0 ≤ 4; omega, rfl, by simp, hst2⟩ (.of [some 0, some 1, some 2, some 3, none] (by rfl) ?_) ?_
      · conv => whnf
        refine ⟨by rfl, ?_⟩
        conv => whnf
        refine ⟨by rfl, ?_⟩
        conv => whnf
        refine ⟨by simp, ?_⟩
        conv => whnf
        refine ⟨by rfl, ?_⟩
        conv => whnf
        refine ⟨by rfl, ?_⟩
        conv => whnf
        refine ⟨by rfl, ?_⟩
        conv => whnf
        refine ⟨by rfl, ?_⟩
        conv => whnf
        exact trivial
      · intro y
        obtain ⟨⟨f, fl, es⟩, k1, k2, k3, k4⟩ := y
        have k1 : f ≤ 4 := k1
        have k2 : fl.length = f := k2
        have k3 : ∀ x ∈ fl, 0 ≤ x ∧ x ≤ 3 := k3
        have k4 : RwP (st + 2 * f) es := k4
        have hm2 : es.length = st + 2 * f := k4.1
        have hn2 : (nums fl).length = f := by rw [nums_len, k2]
        have q0 := nxt_lo ls (b + 3 * f) 4
        have q1 := nxt_hi ls (b + 3 * f) 4 (by omega)
        have hf8 : [[SV.int .u8 (IntKind.u8.wrap (IntKind.i64.wrap (48 + (f : Int))))]] = List.map byteCell [UInt8.ofNat (48 + f)] := by
          rw [w64 _ (by omega) (by omega), IntKind.wrap_u8, List.map_cons, List.map_nil, u8n _ (by omega), show (48 + (f : Int)) % 256 = ((48 + f : Nat) : Int) from by omega]
        have hnu : nums (fl ++ [nxt ls (b + 3 * (f : Int) + 1) st]) = nums fl ++ [[SV.int .i64 (nxt ls (b + 3 * (f : Int) + 1) st)]] := by simp [nums]
        have hge : (nums fl ++ [[SV.int .i64 (nxt ls (b + 3 * (f : Int) + 1) (st : Int))]])[((f : Int)).toNat]? = some [SV.int .i64 (nxt ls (b + 3 * (f : Int) + 1) (st : Int))] := by
          rw [Int.toNat_natCast, List.getElem?_append_right (by omega), hn2, Nat.sub_self]; rfl
        have r0 := nxt_lo ls (b + 3 * f + 1) st
        have r1 := nxt_hi ls (b + 3 * f + 1) st (by omega)
        conv => whnf
        refine (next_s ls (b + 3 * (f : Int)) 4 (by omega) (by omega) (by omega)).call [0] (by decide) (And.intro rfl trivial) (And.intro rfl trivial) ?_
        rintro _ _ ⟨rfl, rfl⟩
        conv => whnf
        refine ⟨fun hc => ?_, fun hc => ?_⟩
        · have hc : (f : Int) ≤ nxt ls (b + 3 * f) 4 := by simpa using hc
          conv => whnf
          refine DrawG.of mixed tab_ok ?_
          conv => whnf
          refine (next_s _ _ _ (by first | omega | (dsimp only at *; omega) | assumption | decide | simp) (by first | omega | (dsimp only at *; omega) | assumption | decide | simp) (by first | omega | (dsimp only at *; omega) | assumption | decide | simp)).calld [0] (by decide) rfl (And.intro rfl trivial) (And.intro rfl trivial) ?_
          conv => whnf
          refine ⟨by simp; omega, ?_⟩
          conv => whnf
          refine ⟨by kernel_rfl, ?_⟩
          conv => whnf
          refine DrawG.of mixed tab_ok ?_
          conv => whnf
          refine ⟨by simp; omega, ?_⟩
          conv => whnf
          refine ⟨_, hge, ?_⟩
          conv => whnf
          refine (weight_s _ _ (by first | omega | (dsimp only at *; omega) | assumption | decide | simp) (by first | omega | (dsimp only at *; omega) | assumption | decide | simp)).calld [0] (by decide) rfl trivial (And.intro rfl trivial) ?_
          conv => whnf
          refine ⟨by simp; omega, ?_⟩
          conv => whnf
          refine ⟨by kernel_rfl, ?_⟩
          conv => whnf
          refine ⟨[UInt8.ofNat (48 + f)], hf8, ?_⟩
          conv => whnf
          refine ⟨by simp, ?_⟩
          conv => whnf
          refine ⟨by simp, ?_⟩
          conv => whnf
          refine ⟨[UInt8.ofNat (48 + f)], hf8, ?_⟩
          conv => whnf
          refine ⟨by simp, ?_⟩
          conv => whnf
          refine ⟨by simp; omega, ?_⟩
          conv => whnf
          (dsimp only at *; refine ⟨⟨(f + 1, fl ++ [nxt ls (b + 3 * (f : Int) + 1) st], (es ++ [evN 5 (nxt ls (b + 3 * (f : Int) + 1) st) (wex ls (b + 3 * (f : Int) + 1 + 1)) 0 []]) ++ [evN 6 0 0 0 ((([42, 32, 42, 32] ++ [UInt8.ofNat (48 + f)]) ++ [32, 62]) ++ [UInt8.ofNat (48 + f)])]), by show f + 1 ≤ 4; omega, by rw [List.length_append, k2]; rfl, fun x hx => (List.mem_append.1 hx).elim (k3 x) (fun h => by rw [List.mem_singleton.1 h]; omega), (k4.app _ _ _ _ _).app _ _ _ _ _⟩, by show 4 - (f + 1) < 4 - f; omega, .of [some 0, some 1, some 2, some 14, some 7] (by rfl) ?_⟩)
          conv => whnf
          refine ⟨by exact (w64 _ (by omega) (by omega)).trans (by simp), ?_⟩
          conv => whnf
          refine ⟨by rfl, ?_⟩
          conv => whnf
          refine ⟨by simp; omega, ?_⟩
          conv => whnf
          refine ⟨by rfl, ?_⟩
          conv => whnf
          refine ⟨by rfl, ?_⟩
          conv => whnf
          refine ⟨by rfl, ?_⟩
          conv => whnf
          refine ⟨by (exact hnu.symm), ?_⟩
          conv => whnf
          repeat (first | exact trivial | (refine ⟨rfl, ?_⟩; (conv => whnf)))
        · have hc : ¬ (f : Int) ≤ nxt ls (b + 3 * f) 4 := by simpa using hc
          conv => whnf
          refine .same ?_
          conv => whnf
          refine DrawG.of mixed tab_ok ?_
          conv => whnf
          refine ⟨by kernel_rfl, ?_⟩
          conv => whnf
          dsimp only at *
          refine OutG.of [some 0, some 3, some 4] (.tup [.sl 1, .agg [.int .i64 (st : Int), .sl 2]]) [chs ls (b + 3 * (f : Int) + 1), .row 74 6 es, .row 3 1 (nums fl)] (by rfl) ⟨es, st + 2 * f, st, fl, _, rfl, rfl, k4, by omega, by omega, ⟨hs3, by omega, by omega, k3⟩, by omega, by omega⟩ ?_
          conv => whnf
          refine ⟨rfl, ?_⟩
          conv => whnf
          repeat (first | exact trivial | (refine ⟨rfl, ?_⟩; (conv => whnf)))
end Go.Proofs.Ytdommpfnoiemkaa

/- Chapter 27: scripts written, by the reference. -/
namespace Go.Proofs.Ytdommpfnoiemkaa
open Go.Sx
set_option linter.unusedSimpArgs false
set_option linter.unusedVariables false
def evH (e : Ev) : List UInt8 := encN e.k.toNat ++ encN e.a.toNat ++ encN e.b.toNat ++ encN e.c.toNat ++ encN (e.s.length : Int).toNat ++ e.s ++ encN ((e.fl.map blE).length : Int).toNat
theorem fl_stepS {l : List Bool} {i : Nat} (h : i < l.length) : (l.take (i + 1)).map flg = (l.take i).map flg ++ [flg (l.getD i false)] := by
  rw [List.take_add_one, List.map_append, List.getElem?_eq_getElem h]; simp [List.getD, List.getElem?_eq_getElem h]
set_option maxRecDepth 100000 in
set_option maxHeartbeats 4000000 in
theorem revent_s (e : Ev) (he : evP e) : PSpec Try.prog 108 [.agg (evE e)] (· = .str (evB e)) := by
  refine .of_code' tab_ok Try.func108 (by rfl) rfl trivial ?_
  have hv := he
  unfold evP at hv
  have l1 := encN_len9 e.k.toNat (by omega)
  have l2 := encN_len9 e.a.toNat (by omega)
  have l3 := encN_len9 e.b.toNat (by omega)
  have l4 := encN_len9 e.c.toNat (by omega)
  have l5 := encN_len9 (e.s.length : Int).toNat (by omega)
  have l6 := encN_len9 ((e.fl.map blE).length : Int).toNat (by rw [List.length_map]; omega)
  have hm : (e.fl.map blE).length = e.fl.length := List.length_map ..
  conv => whnf
  refine DrawG.of mixed tab_ok ?_
  conv => whnf
  refine (rnumber_s _ (by first | omega | assumption | decide | simp) (by first | omega | assumption | decide | simp)).calld ?_
  conv => whnf
  refine (rnumber_s _ (by first | omega | assumption | decide | simp) (by first | omega | assumption | decide | simp)).calld ?_
  conv => whnf
  refine ⟨by omega, ?_⟩
  conv => whnf
  refine (rnumber_s _ (by first | omega | assumption | decide | simp) (by first | omega | assumption | decide | simp)).calld ?_
  conv => whnf
  refine ⟨by simp; omega, ?_⟩
  conv => whnf
  refine (rnumber_s _ (by first | omega | assumption | decide | simp) (by first | omega | assumption | decide | simp)).calld ?_
  conv => whnf
  refine ⟨by simp; omega, ?_⟩
  conv => whnf
  refine (rnumber_s _ (by first | omega | assumption | decide | simp) (by first | omega | assumption | decide | simp)).calld ?_
  conv => whnf
  refine ⟨by (simp only [List.length_append, List.length_map] at *; omega), ?_⟩
  conv => whnf
  refine ⟨by (simp only [List.length_append, List.length_map] at *; omega), ?_⟩
  conv => whnf
  refine (rnumber_s _ (by first | omega | assumption | decide | simp) (by first | omega | assumption | decide | simp)).calld ?_
  conv => whnf
  refine ⟨by (simp only [List.length_append, List.length_map] at *; omega), ?_⟩
  conv => whnf
  refine ⟨by kernel_rfl, ?_⟩
  conv => whnf
  -- LOOP m=0 F=[SV.agg (evE e), SV.ptr 0 0, SV.str { data := #[] }.data.toList, SV.str (encN e.k.toNat ++ encN e.a.toNat ++ encN e.b.toNat ++ encN e.c.toNat ++ encN (↑e.s.length).toNat ++ e.s ++ encN (↑(List.map blE e.fl).length).toNat), SV.int IntKind.i64 0, SV.ptr 0 (0 + (0, 3, 1).fst), SV.int IntKind.i64 e.k, SV.str (encN e.k.toNat), SV.ptr 0 (0 + (1, 3, 1).fst), SV.int IntKind.i64 e.a, SV.str (encN e.a.toNat), SV.str (encN e.k.toNat ++ encN e.a.toNat), SV.ptr 0 (0 + (2, 3, 1).fst), SV.int IntKind.i64 e.b, SV.str (encN e.b.toNat), SV.str (encN e.k.toNat ++ encN e.a.toNat ++ encN e.b.toNat), SV.ptr 0 (0 + (3, 3, 1).fst), SV.int IntKind.i64 e.c, SV.str (encN e.c.toNat), SV.str (encN e.k.toNat ++ encN e.a.toNat ++ encN e.b.toNat ++ encN e.c.toNat), SV.ptr 0 (0 + (4, 9, 1).fst), SV.str e.s, SV.int IntKind.i64 ↑e.s.length, SV.str (encN (↑e.s.length).toNat), SV.str (encN e.k.toNat ++ encN e.a.toNat ++ encN e.b.toNat ++ encN e.c.toNat ++ encN (↑e.s.length).toNat), SV.ptr 0 (0 + (4, 9, 1).fst), SV.str e.s, SV.str (encN e.k.toNat ++ encN e.a.toNat ++ encN e.b.toNat ++ encN e.c.toNat ++ encN (↑e.s.length).toNat ++ e.s), SV.ptr 0 (0 + (5, 72, 1).fst), SV.rs 1 (List.map blE e.fl), SV.int IntKind.i64 ↑(List.map blE e.fl).length, SV.str (encN (↑(List.map blE e.fl).length).toNat), SV.str (encN e.k.toNat ++ encN e.a.toNat ++ encN e.b.toNat ++ encN e.c.toNat ++ encN (↑e.s.length).toNat ++ e.s ++ encN (↑(List.map blE e.fl).length).toNat), SV.undef, SV.undef, SV.undef, SV.undef, SV.undef, SV.undef, SV.undef, SV.undef, SV.undef, SV.undef, SV.undef, SV.undef, SV.undef, SV.undef, SV.undef, SV.undef, SV.undef] heap=[(0, Blk.fix 74 (evE e)).snd, Blk.fresh, Blk.fresh, Blk.fresh, Blk.fresh, Blk.fresh, Blk.fresh]
  have hH : (evH e).length ≤ 309 := by simp only [evH, List.length_append]; omega
  refine LoopG.inv tab_ok 50 (fun x : { i : Nat // i ≤ e.fl.length } => [(1, .ptr 0 0), (3, .str (evH e ++ (e.fl.take x.1).map flg)), (4, .int .i64 (x.1 : Int))])
    (fun x => [.fix 74 (evE e)]) (fun x => e.fl.length - x.1) ⟨0, by omega⟩ (.of [some 0] (by rfl) ?_) ?_
  · conv => whnf
    refine ⟨by (exact congrArg SV.str (List.append_nil _).symm), ?_⟩
    conv => whnf
    refine ⟨by rfl, ?_⟩
    conv => whnf
    refine ⟨by rfl, ?_⟩
    conv => whnf
    refine ⟨by rfl, ?_⟩
    conv => whnf
    refine ⟨by rfl, ?_⟩
    conv => whnf
    refine ⟨by rfl, ?_⟩
    conv => whnf
    refine ⟨by rfl, ?_⟩
    conv => whnf
    refine ⟨by rfl, ?_⟩
    conv => whnf
    exact trivial
  · intro x
    have hx := x.2
    have hT : (evH e ++ (e.fl.take x.1).map flg).length ≤ 325 := by simp only [List.length_append, List.length_map, List.length_take]; omega
    conv => whnf
    refine ⟨fun hb => ?_, fun hb => ?_⟩
    · have hb : x.1 < e.fl.length := by simp only [decide_eq_true_eq] at hb; omega
      have hs := fl_stepS hb
      conv => whnf
      refine ⟨by omega, ?_⟩
      conv => whnf
      refine ⟨_, fl_get hb, ?_⟩
      conv => whnf
      refine ⟨fun hh1 => ?_, fun hh1 => ?_⟩
      · skip
        conv => whnf
        refine ⟨by simp; omega, ?_⟩
        conv => whnf
        (refine ⟨⟨x.1 + 1, by omega⟩, by show e.fl.length - (x.1 + 1) < e.fl.length - x.1; omega, .of [some 0] (by rfl) ?_⟩)
        conv => whnf
        refine ⟨by (rw [hs, ‹e.fl.getD x.1 false = true›, ← List.append_assoc]; rfl), ?_⟩
        conv => whnf
        refine ⟨by exact (w64 _ (by omega) (by omega)).trans (by simp), ?_⟩
        conv => whnf
        refine ⟨by rfl, ?_⟩
        conv => whnf
        refine ⟨by rfl, ?_⟩
        conv => whnf
        refine ⟨by rfl, ?_⟩
        conv => whnf
        refine ⟨by rfl, ?_⟩
        conv => whnf
        refine ⟨by rfl, ?_⟩
        conv => whnf
        refine ⟨by rfl, ?_⟩
        conv => whnf
        exact trivial
      · skip
        conv => whnf
        refine ⟨by simp; omega, ?_⟩
        conv => whnf
        (refine ⟨⟨x.1 + 1, by omega⟩, by show e.fl.length - (x.1 + 1) < e.fl.length - x.1; omega, .of [some 0] (by rfl) ?_⟩)
        conv => whnf
        refine ⟨by (rw [hs, ‹e.fl.getD x.1 false = false›, ← List.append_assoc]; rfl), ?_⟩
        conv => whnf
        refine ⟨by exact (w64 _ (by omega) (by omega)).trans (by simp), ?_⟩
        conv => whnf
        refine ⟨by rfl, ?_⟩
        conv => whnf
        refine ⟨by rfl, ?_⟩
        conv => whnf
        refine ⟨by rfl, ?_⟩
        conv => whnf
        refine ⟨by rfl, ?_⟩
        conv => whnf
        refine ⟨by rfl, ?_⟩
        conv => whnf
        refine ⟨by rfl, ?_⟩
        conv => whnf
        exact trivial
    · have hb : e.fl.length ≤ x.1 := by simp only [decide_eq_false_iff_not] at hb; omega
      have e1 : evH e ++ (e.fl.take x.1).map flg = evB e := by rw [List.take_of_length_le hb]; simp only [evH, evB, hm, Int.toNat_natCast, List.append_assoc]
      conv => whnf
      refine .same ?_
      conv => whnf
      (rw [e1])
end Go.Proofs.Ytdommpfnoiemkaa

/- Chapter 27: scripts written, by the reference. -/
namespace Go.Proofs.Ytdommpfnoiemkaa
open Go.Sx
set_option linter.unusedSimpArgs false
set_option linter.unusedVariables false
def rdL (l : List (Int × Int)) : List Int := (l.map fun r => [r.1, r.2]).flatten
def hdL (c : Cf) (i : Nat) : List Int := fldL c ++ [((c.rs.map rtE).length : Int)] ++ rdL (c.rs.take i)
theorem rdL_step {l : List (Int × Int)} {i : Nat} (h : i < l.length) : rdL (l.take (i + 1)) = rdL (l.take i) ++ [(l.getD i (0, 0)).1, (l.getD i (0, 0)).2] := by
  unfold rdL; rw [List.take_add_one, List.map_append, List.flatten_append, List.getElem?_eq_getElem h]; simp [List.getD, List.getElem?_eq_getElem h]
theorem rdL_len (l : List (Int × Int)) : (rdL l).length = 2 * l.length := by
  induction l with
  | nil => rfl
  | cons x l ih => simp only [rdL, List.map_cons, List.flatten_cons, List.length_append, List.length_cons, List.length_nil] at *; omega
theorem numsB_app (a b : List Int) : numsB (a ++ b) = numsB a ++ numsB b := by simp [numsB]
theorem numsB_rd (l : List (Int × Int)) : numsB (rdL l) = rtsB l := by
  induction l with
  | nil => rfl
  | cons x l ih =>
    have e : rdL (x :: l) = [x.1, x.2] ++ rdL l := rfl
    rw [e, numsB_app, ih]; simp [numsB, rtsB, rtB]
theorem numsB_hd (c : Cf) : ([65, 83, 1] : List UInt8) ++ numsB (hdL c c.rs.length) = scr1 c ++ rtsB c.rs := by
  unfold hdL scr1
  rw [List.take_length, numsB_app, numsB_app, numsB_rd]
  simp [numsB]
theorem numsB_stp {l : List Int} {i : Nat} (h : i < l.length) : numsB (l.take (i + 1)) = numsB (l.take i) ++ encN (l.getD i 0).toNat := flat_step (f := fun z : Int => encN z.toNat) 0 h
theorem hdL_rng {c : Cf} (h : cfOk c = true) : ∀ z ∈ hdL c c.rs.length, 0 ≤ z ∧ z ≤ 1099511627776 := by
  obtain ⟨h0, hr⟩ := cfOk_of h
  intro z hz
  unfold hdL at hz
  rw [List.take_length, List.mem_append, List.mem_append] at hz
  rcases hz with (hz | hz) | hz
  · exact fld_rng h0 z hz
  · simp at hz; subst hz; unfold cfP0 at h0; omega
  · unfold rdL at hz
    obtain ⟨a, ha, hz⟩ := List.mem_flatten.1 hz
    obtain ⟨r, hr1, rfl⟩ := List.mem_map.1 ha
    have hp : rtP r := of_decide_eq_true (List.all_eq_true.1 hr r hr1)
    unfold rtP at hp
    simp at hz
    rcases hz with rfl | rfl <;> omega
theorem numsB_len9 {l : List Int} (h : ∀ z ∈ l, 0 ≤ z ∧ z ≤ 1099511627776) (i : Nat) : (numsB (l.take i)).length ≤ 9 * l.length := by
  have := flat_len (f := fun z : Int => encN z.toNat) (l := l.take i) (k := 9) fun z hz => encN_len9 _ (by have := h z (List.mem_of_mem_take hz); omega)
  have e : (l.take i).length ≤ l.length := by rw [List.length_take]; omega
  have : 9 * (l.take i).length ≤ 9 * l.length := Nat.mul_le_mul_left _ e
  unfold numsB; omega
set_option maxRecDepth 100000 in
set_option maxHeartbeats 4000000 in
theorem rhead_s (c : Cf) (hv : cfOk c = true) : PSpec Try.prog 106 [cfE c] (· = .str (scr1 c ++ rtsB c.rs)) := by
  refine .of_code' tab_ok Try.func106 (by rfl) rfl trivial ?_
  have h0 := (cfOk_of hv).1
  have hmr : (c.rs.map rtE).length = c.rs.length := List.length_map ..
  have hnl : c.rs.length ≤ 12 := by unfold cfP0 at h0; omega
  conv => whnf
  refine LoopG.inv tab_ok 83 (fun x : { i : Nat // i ≤ c.rs.length } => [(1, .ptr 0 0), (3, .sl 1), (4, .int .i64 (x.1 : Int))])
    (fun x => [.fix 71 (cfC c), .row 2 1 (nums (hdL c x.1))]) (fun x => c.rs.length - x.1) ⟨0, by omega⟩ (.of [some 0, some 1] (by rfl) ?_) ?_
  · conv => whnf
    refine ⟨by rfl, ?_⟩
    conv => whnf
    refine ⟨by rfl, ?_⟩
    conv => whnf
    refine ⟨by rfl, ?_⟩
    conv => whnf
    refine ⟨by rfl, ?_⟩
    conv => whnf
    refine ⟨by rfl, ?_⟩
    conv => whnf
    refine ⟨by rfl, ?_⟩
    conv => whnf
    refine ⟨by rfl, ?_⟩
    conv => whnf
    refine ⟨by rfl, ?_⟩
    conv => whnf
    refine ⟨by rfl, ?_⟩
    conv => whnf
    refine ⟨by rfl, ?_⟩
    conv => whnf
    refine ⟨by rfl, ?_⟩
    conv => whnf
    refine ⟨by rfl, ?_⟩
    conv => whnf
    refine ⟨by rfl, ?_⟩
    conv => whnf
    refine ⟨by rfl, ?_⟩
    conv => whnf
    refine ⟨by rfl, ?_⟩
    conv => whnf
    refine ⟨by rfl, ?_⟩
    conv => whnf
    refine ⟨by rfl, ?_⟩
    conv => whnf
    exact trivial
  · intro x
    have hx := x.2
    have hL : (hdL c x.1).length = 15 + 2 * x.1 := by
      unfold hdL
      rw [List.length_append, List.length_append, rdL_len, List.length_take]
      have : (fldL c).length = 14 := rfl
      simp only [List.length_cons, List.length_nil]; omega
    have hLn := nums_len (hdL c x.1)
    conv => whnf
    refine ⟨fun hb => ?_, fun hb => ?_⟩
    · have hb : x.1 < c.rs.length := by simp only [decide_eq_true_eq] at hb; omega
      have hrow : nums (hdL c x.1) ++ [[.int .i64 (c.rs.getD x.1 (0, 0)).1], [.int .i64 (c.rs.getD x.1 (0, 0)).2]] = nums (hdL c (x.1 + 1)) := by
        unfold hdL; rw [rdL_step hb]; simp [nums]
      conv => whnf
      refine DrawG.of mixed tab_ok ?_
      conv => whnf
      refine ⟨by omega, ?_⟩
      conv => whnf
      refine ⟨_, rt_get hb, ?_⟩
      conv => whnf
      refine ⟨by omega, ?_⟩
      conv => whnf
      refine ⟨_, rt_get hb, ?_⟩
      conv => whnf
      refine ⟨by simp; omega, ?_⟩
      conv => whnf
      refine ⟨by kernel_rfl, ?_⟩
      conv => whnf
      (refine ⟨⟨x.1 + 1, by omega⟩, by show c.rs.length - (x.1 + 1) < c.rs.length - x.1; omega, .of [some 0, some 3] (by rfl) ?_⟩)
      conv => whnf
      refine ⟨by exact (w64 _ (by omega) (by omega)).trans (by simp), ?_⟩
      conv => whnf
      refine ⟨by rfl, ?_⟩
      conv => whnf
      refine ⟨by rfl, ?_⟩
      conv => whnf
      refine ⟨by rfl, ?_⟩
      conv => whnf
      refine ⟨by rfl, ?_⟩
      conv => whnf
      refine ⟨by rfl, ?_⟩
      conv => whnf
      refine ⟨by rfl, ?_⟩
      conv => whnf
      refine ⟨by rfl, ?_⟩
      conv => whnf
      refine ⟨by rfl, ?_⟩
      conv => whnf
      refine ⟨by rfl, ?_⟩
      conv => whnf
      refine ⟨by rfl, ?_⟩
      conv => whnf
      refine ⟨by rfl, ?_⟩
      conv => whnf
      refine ⟨by rfl, ?_⟩
      conv => whnf
      refine ⟨by rfl, ?_⟩
      conv => whnf
      refine ⟨by rfl, ?_⟩
      conv => whnf
      refine ⟨by rfl, ?_⟩
      conv => whnf
      refine ⟨by omega, ?_⟩
      conv => whnf
      exact trivial
    · have hb : x.1 = c.rs.length := by simp only [decide_eq_false_iff_not] at hb; omega
      have e0 : hdL c x.1 = hdL c c.rs.length := by rw [hb]
      have hrg := hdL_rng hv
      rw [← e0] at hrg
      conv => whnf
      refine .same ?_
      conv => whnf
      refine LoopG.inv tab_ok 83 (fun y : { i : Nat // i ≤ (hdL c x.1).length } => [(3, .sl 0), (5, .str (([65, 83, 1] : List UInt8) ++ numsB ((hdL c x.1).take y.1))), (6, .int .i64 (y.1 : Int))])
        (fun y => [.row 2 1 (nums (hdL c x.1))]) (fun y => (hdL c x.1).length - y.1) ⟨0, by omega⟩ (.of [some 1] (by rfl) ?_) ?_
      · conv => whnf
        refine ⟨by rfl, ?_⟩
        conv => whnf
        refine ⟨by rfl, ?_⟩
        conv => whnf
        refine ⟨by rfl, ?_⟩
        conv => whnf
        exact trivial
      · intro y
        have hy := y.2
        have hn9 := numsB_len9 hrg y.1
        conv => whnf
        refine ⟨fun hc => ?_, fun hc => ?_⟩
        · have hc : y.1 < (hdL c x.1).length := by simp only [decide_eq_true_eq] at hc; omega
          have hz := hrg _ (getD_in hc)
          have hl9 := encN_len9 ((hdL c x.1).getD y.1 0).toNat (by omega)
          have hst : (([65, 83, 1] : List UInt8) ++ numsB ((hdL c x.1).take y.1)) ++ encN ((hdL c x.1).getD y.1 0).toNat = ([65, 83, 1] : List UInt8) ++ numsB ((hdL c x.1).take (y.1 + 1)) := by rw [numsB_stp hc, List.append_assoc]
          conv => whnf
          refine ⟨by omega, ?_⟩
          conv => whnf
          refine ⟨_, nu_get hc, ?_⟩
          conv => whnf
          refine (rnumber_s _ (by first | omega | assumption | decide | simp) (by first | omega | assumption | decide | simp)).call ?_
          rintro _ rfl
          conv => whnf
          refine ⟨by (simp only [List.length_append, List.length_cons, List.length_nil]; omega), ?_⟩
          conv => whnf
          (refine ⟨⟨y.1 + 1, by omega⟩, by show (hdL c x.1).length - (y.1 + 1) < (hdL c x.1).length - y.1; omega, .of [some 0] (by rfl) ?_⟩)
          conv => whnf
          refine ⟨by (exact congrArg SV.str hst), ?_⟩
          conv => whnf
          refine ⟨by exact (w64 _ (by omega) (by omega)).trans (by simp), ?_⟩
          conv => whnf
          refine ⟨by rfl, ?_⟩
          conv => whnf
          exact trivial
        · have hc : (hdL c x.1).length ≤ y.1 := by simp only [decide_eq_false_iff_not] at hc; omega
          have e1 : (([65, 83, 1] : List UInt8) ++ numsB ((hdL c x.1).take y.1)) = scr1 c ++ rtsB c.rs := by rw [List.take_of_length_le hc, e0]; exact numsB_hd c
          conv => whnf
          refine .same ?_
          conv => whnf
          (rw [e1])
end Go.Proofs.Ytdommpfnoiemkaa

/- Chapter 27: scripts written, by the reference: Encode. -/
namespace Go.Proofs.Ytdommpfnoiemkaa
open Go.Sx
set_option linter.unusedSimpArgs false
set_option linter.unusedVariables false
theorem evs_bad2 {l : List Ev} {i : Nat} (h : evsOk (l.take i) = false) : evsOk l = false := by
  unfold evsOk at *
  rw [List.all_eq_false] at *
  obtain ⟨x, hx, h⟩ := h
  exact ⟨x, List.mem_of_mem_take hx, h⟩
set_option maxRecDepth 100000 in
set_option maxHeartbeats 4000000 in
theorem rencode_s (c : Cf) (l : List Ev) (hc : c.rs.length ≤ 9223372036854775807) (hl : l.length ≤ 9223372036854775807) : PSpec Try.prog 92 [cfE c, .rs 6 (l.map evE)] (· = encR c l) := by
  refine .of_code' tab_ok Try.func92 (by rfl) rfl trivial ?_
  have hm : (l.map evE).length = l.length := List.length_map ..
  conv => whnf
  refine (rcfv_s c hc).call ?_
  rintro _ rfl
  conv => whnf
  refine LoopG.inv tab_ok 59 (fun x : { i : Nat // i ≤ l.length } => [(1, .rs 6 (l.map evE)), (2, .ptr 0 0), (6, .bool (cfOk c && evsOk (l.take x.1))), (7, .int .i64 (x.1 : Int))])
    (fun _ => [.fix 71 (cfC c)]) (fun x => l.length - x.1) ⟨0, by omega⟩ (.of [some 0] (by rfl) ?_) ?_
  · conv => whnf
    refine ⟨by rfl, ?_⟩
    conv => whnf
    refine ⟨by (exact (Bool.and_true _).symm), ?_⟩
    conv => whnf
    refine ⟨by rfl, ?_⟩
    conv => whnf
    refine ⟨by rfl, ?_⟩
    conv => whnf
    refine ⟨by rfl, ?_⟩
    conv => whnf
    refine ⟨by rfl, ?_⟩
    conv => whnf
    refine ⟨by rfl, ?_⟩
    conv => whnf
    refine ⟨by rfl, ?_⟩
    conv => whnf
    refine ⟨by rfl, ?_⟩
    conv => whnf
    refine ⟨by rfl, ?_⟩
    conv => whnf
    refine ⟨by rfl, ?_⟩
    conv => whnf
    refine ⟨by rfl, ?_⟩
    conv => whnf
    refine ⟨by rfl, ?_⟩
    conv => whnf
    refine ⟨by rfl, ?_⟩
    conv => whnf
    refine ⟨by rfl, ?_⟩
    conv => whnf
    refine ⟨by rfl, ?_⟩
    conv => whnf
    refine ⟨by rfl, ?_⟩
    conv => whnf
    refine ⟨by rfl, ?_⟩
    conv => whnf
    exact trivial
  · intro x
    have hx := x.2
    conv => whnf
    refine ⟨fun hb => ?_, fun hb => ?_⟩
    · have hb : x.1 < l.length := by simp only [decide_eq_true_eq] at hb; omega
      conv => whnf
      refine ⟨fun hk => ?_, fun hk => ?_⟩
      · have hk1 : cfOk c = true := by rw [Bool.and_eq_true] at hk; exact hk.1
        have hk2 : evsOk (l.take x.1) = true := by rw [Bool.and_eq_true] at hk; exact hk.2
        have hst : (cfOk c && evsOk (l.take (x.1 + 1))) = evOk (l.getD x.1 ev0) := by
          rw [hk1, Bool.true_and]
          unfold evsOk at *
          rw [List.take_add_one, List.all_append, hk2, List.getElem?_eq_getElem hb]
          simp [List.getD, List.getElem?_eq_getElem hb]
        conv => whnf
        refine ⟨by omega, ?_⟩
        conv => whnf
        refine ⟨_, ev_get hb, ?_⟩
        conv => whnf
        refine (revv_s _).call ?_
        rintro _ rfl
        conv => whnf
        (refine ⟨⟨x.1 + 1, by omega⟩, by show l.length - (x.1 + 1) < l.length - x.1; omega, .of [some 0] (by rfl) ?_⟩)
        conv => whnf
        refine ⟨by rfl, ?_⟩
        conv => whnf
        refine ⟨by (exact hst.symm), ?_⟩
        conv => whnf
        refine ⟨by exact (w64 _ (by omega) (by omega)).trans (by simp), ?_⟩
        conv => whnf
        refine ⟨by rfl, ?_⟩
        conv => whnf
        refine ⟨by rfl, ?_⟩
        conv => whnf
        refine ⟨by rfl, ?_⟩
        conv => whnf
        refine ⟨by rfl, ?_⟩
        conv => whnf
        refine ⟨by rfl, ?_⟩
        conv => whnf
        refine ⟨by rfl, ?_⟩
        conv => whnf
        refine ⟨by rfl, ?_⟩
        conv => whnf
        refine ⟨by rfl, ?_⟩
        conv => whnf
        refine ⟨by rfl, ?_⟩
        conv => whnf
        refine ⟨by rfl, ?_⟩
        conv => whnf
        refine ⟨by rfl, ?_⟩
        conv => whnf
        refine ⟨by rfl, ?_⟩
        conv => whnf
        refine ⟨by rfl, ?_⟩
        conv => whnf
        refine ⟨by rfl, ?_⟩
        conv => whnf
        refine ⟨by rfl, ?_⟩
        conv => whnf
        exact trivial
      · have hn : encR c l = .tup [.str [], .int .i64 1] := by
          rw [Bool.and_eq_false_iff] at hk
          rcases hk with hk | hk
          · exact encR_c hk
          · exact encR_e (evs_bad2 hk)
        conv => whnf
        refine .same ?_
        conv => whnf
        refine both_t (by simp [*]) ?_
        conv => whnf
        exact hn.symm
    · have hb : l.length ≤ x.1 := by simp only [decide_eq_false_iff_not] at hb; omega
      have et : l.take x.1 = l := List.take_of_length_le hb
      conv => whnf
      refine .same ?_
      conv => whnf
      refine ⟨fun hk => ?_, fun hk => ?_⟩
      · have hn : encR c l = .tup [.str [], .int .i64 1] := by
          rw [et] at hk
          have hk : (cfOk c && evsOk l) = false := by rw [Bool.not_eq_true'] at hk; exact hk
          rw [Bool.and_eq_false_iff] at hk
          rcases hk with hk | hk
          · exact encR_c hk
          · exact encR_e hk
        conv => whnf
        exact hn.symm
      · have hk : (cfOk c && evsOk l) = true := by rw [et, Bool.not_eq_false'] at hk; exact hk
        rw [Bool.and_eq_true] at hk
        obtain ⟨hv, he⟩ := hk
        have hf0 := (cfOk_of hv).1
        have hrs := (cfOk_of hv).2
        conv => whnf
        refine ⟨fun hb => ?_, fun hb => ?_⟩
        · have hb : 4096 < l.length := by simp only [decide_eq_true_eq] at hb; omega
          conv => whnf
          exact (encR_f hv he hb).symm
        · have hb : ¬ 4096 < l.length := by simp only [decide_eq_false_iff_not] at hb; omega
          have hnl := encN_len9 ((l.map evE).length : Int).toNat (by rw [List.length_map]; omega)
          have hn14 := numsB_len hf0 14
          have hnr := encN_len9 c.rs.length (by unfold cfP0 at hf0; omega)
          have hrl := rtsB_len hrs c.rs.length
          rw [List.take_length] at hrl
          have hs1 : (scr1 c ++ rtsB c.rs).length ≤ 400 := by
            unfold cfP0 at hf0
            simp only [scr1, List.length_append, List.length_cons, List.length_nil]
            have : numsB (fldL c) = numsB ((fldL c).take 14) := rfl
            rw [this]; omega
          conv => whnf
          refine (rhead_s _ (by first | omega | (simp only [List.length_map, List.length_append] at *; omega) | assumption | decide | simp)).call ?_
          rintro _ rfl
          conv => whnf
          refine (rnumber_s _ (by first | omega | (simp only [List.length_map, List.length_append] at *; omega) | assumption | decide | simp) (by first | omega | (simp only [List.length_map, List.length_append] at *; omega) | assumption | decide | simp)).call ?_
          rintro _ rfl
          conv => whnf
          refine ⟨by omega, ?_⟩
          conv => whnf
          refine ⟨by (simp only [List.length_append] at *; omega), ?_⟩
          conv => whnf
          -- LOOP m=0 F=[SV.any, (1, SV.rs 6 (List.map evE l)).snd, (2, SV.ptr 0 0).snd, SV.any, SV.any, SV.any, (6, SV.bool (cfOk c && evsOk (List.take x.val l))).snd, (7, SV.int IntKind.i64 ↑x.val).snd, SV.sl 1, SV.int IntKind.i64 0, SV.any, SV.any, SV.any, (7, SV.int IntKind.i64 ↑x.val).snd, (1, SV.rs 6 (List.map evE l)).snd, SV.int IntKind.i64 ↑(List.map evE l).length, SV.bool (decide (↑x.val < ↑(List.map evE l).length)), SV.ff, SV.undef, SV.ff, SV.any, SV.any, SV.any, SV.any, SV.any, SV.any, SV.any, (6, SV.bool (cfOk c && evsOk (List.take x.val l))).snd, SV.ff, (1, SV.rs 6 (List.map evE l)).snd, SV.int IntKind.i64 ↑(List.map evE l).length, SV.ff, SV.agg [SV.int IntKind.i64 c.mo, SV.int IntKind.i64 c.an, SV.int IntKind.i64 c.ad, SV.int IntKind.i64 c.pk, SV.int IntKind.i64 c.pq, SV.int IntKind.i64 c.pn, SV.int IntKind.i64 c.cp, SV.int IntKind.i64 c.cb, SV.int IntKind.i64 c.ca, SV.int IntKind.i64 c.tr, SV.int IntKind.i64 c.wi, SV.int IntKind.i64 c.qu, SV.int IntKind.i64 c.cy, SV.int IntKind.i64 c.re, SV.rs 2 (List.map rtE c.rs)], SV.str (scr1 c ++ rtsB c.rs), (1, SV.rs 6 (List.map evE l)).snd, SV.int IntKind.i64 ↑(List.map evE l).length, SV.str (encN (↑(List.map evE l).length).toNat), SV.str (scr1 c ++ rtsB c.rs ++ encN (↑(List.map evE l).length).toNat), SV.sl 1, SV.any, SV.any, SV.any, SV.any, SV.any, SV.any, SV.any, SV.any, SV.any, SV.any, SV.any, SV.any, SV.any, SV.any, SV.any, SV.any, SV.any, SV.any, SV.any, SV.any] heap=[Blk.fix 71 (cfC c), (1, Blk.row 5 1 (List.map byteCell (scr1 c ++ rtsB c.rs ++ encN (↑(List.map evE l).length).toNat))).snd]
          have hrow2 : (scr1 c ++ rtsB c.rs ++ encN ((l.map evE).length : Int).toNat).map byteCell = (scr2 c l.length ++ evsB (l.take 0)).map byteCell := by
            rw [hm, Int.toNat_natCast]; simp [scr2, evsB]
          have hs2 : (scr2 c l.length).length ≤ 500 := by
            rw [hm, Int.toNat_natCast] at hnl
            simp only [scr2, List.length_append] at *; omega
          refine LoopG.inv tab_ok 59 (fun r : { i : Nat // i ≤ l.length } => [(1, .rs 6 (l.map evE)), (8, .sl 0), (9, .int .i64 (r.1 : Int))])
            (fun r => [.row 5 1 ((scr2 c l.length ++ evsB (l.take r.1)).map byteCell)]) (fun r => l.length - r.1) ⟨0, by omega⟩ (.of [some 1] (by rfl) ?_) ?_
          · conv => whnf
            refine ⟨by rfl, ?_⟩
            conv => whnf
            refine ⟨by rfl, ?_⟩
            conv => whnf
            refine ⟨by omega, ?_⟩
            conv => whnf
            exact trivial
          · intro r
            have hr := r.2
            have hev := evsB_len he r.1
            have hlr : ((scr2 c l.length ++ evsB (l.take r.1)).map byteCell).length ≤ 2000000 := by rw [List.length_map, List.length_append]; omega
            conv => whnf
            refine ⟨fun hd => ?_, fun hd => ?_⟩
            · have hd : r.1 < l.length := by simp only [decide_eq_true_eq] at hd; omega
              have hep := evs_at hd he
              have hel := evB_len hep
              have hst := flat_step (f := evB) (l := l) ev0 hd
              have hrow : (scr2 c l.length ++ evsB (l.take r.1)).map byteCell ++ (evB (l.getD r.1 ev0)).map byteCell = (scr2 c l.length ++ evsB (l.take (r.1 + 1))).map byteCell := by
                unfold evsB; rw [hst]; simp
              conv => whnf
              refine ⟨by omega, ?_⟩
              conv => whnf
              refine ⟨_, ev_get hd, ?_⟩
              conv => whnf
              refine (revent_s _ (by first | omega | assumption | decide | simp)).call ?_
              rintro _ rfl
              conv => whnf
              refine ⟨by (simp only [List.length_map] at *; omega), ?_⟩
              conv => whnf
              (refine ⟨⟨r.1 + 1, by omega⟩, by show l.length - (r.1 + 1) < l.length - r.1; omega, .of [some 1] (by rfl) ?_⟩)
              conv => whnf
              refine ⟨by rfl, ?_⟩
              conv => whnf
              refine ⟨by exact (w64 _ (by omega) (by omega)).trans (by simp), ?_⟩
              conv => whnf
              refine ⟨by omega, ?_⟩
              conv => whnf
              exact trivial
            · have hd : r.1 = l.length := by simp only [decide_eq_false_iff_not] at hd; omega
              have e16 : scr2 c l.length ++ evsB (l.take r.1) = scrB c l := by rw [hd, List.take_length]; rfl
              have hlen : (scr2 c l.length ++ evsB (l.take r.1)).length ≤ 2000000 := by rw [List.length_map] at hlr; exact hlr
              have eD : (scr2 c l.length ++ evsB (l.take r.1)) ++ twoB (ckV (scr2 c l.length ++ evsB (l.take r.1))) = scrD c l := by rw [e16]; rfl
              have hlD := congrArg List.length eD
              conv => whnf
              refine .same ?_
              conv => whnf
              (refine ⟨scr2 c l.length ++ evsB (l.take r.1), rfl, ?_⟩)
              conv => whnf
              refine (sealed_s _ (by first | omega | assumption | decide | simp)).call ?_
              rintro _ rfl
              conv => whnf
              refine ⟨fun hh11 => ?_, fun hh11 => ?_⟩
              · simp only [decide_eq_true_eq, decide_eq_false_iff_not] at hh11
                conv => whnf
                exact (encR_g hv he hb (by omega)).symm
              · simp only [decide_eq_true_eq, decide_eq_false_iff_not] at hh11
                conv => whnf
                (rw [eD]; exact (encR_o hv he hb (by omega)).symm)
end Go.Proofs.Ytdommpfnoiemkaa

/- Chapter 27: both decoders, and both encoders, compared. -/
namespace Go.Proofs.Ytdommpfnoiemkaa
open Go.Sx
set_option linter.unusedSimpArgs false
set_option linter.unusedVariables false
def bndR (r : Cf × List Ev × Int) : Prop := r.1.rs.length ≤ 12 ∧ r.2.1.length ≤ 4096 ∧ ∀ i, (r.2.1.getD i ev0).fl.length ≤ 16
theorem bnd_c0 (e : Int) : bndR (c0, [], e) := ⟨by show 0 ≤ 12; omega, by show 0 ≤ 4096; omega, fun i => by show (([] : List Ev).getD i ev0).fl.length ≤ 16; simp [ev0]⟩
theorem bodyR_bnd (s : List UInt8) : bndR (bodyR s) := by
  unfold bodyR
  split
  · exact bnd_c0 _
  · rename_i c l r _
    split
    · split
      · rename_i hv
        split
        · exact bnd_c0 _
        · rename_i h5
          refine ⟨(cfOk_of hv.1).1.2.2.2.2.2.2.2.2.2.2.2.2.2.2.2.2, by show l.length ≤ 4096; omega, fun i => ?_⟩
          show (l.getD i ev0).fl.length ≤ 16
          by_cases hi : i < l.length
          · exact (evs_at hi hv.2).2.2.2.2.2.2.2.2.2
          · rw [List.getD_eq_getElem?_getD, List.getElem?_eq_none (by omega)]; simp [ev0]
      · exact bnd_c0 _
    · exact bnd_c0 _
theorem decR_bnd (s : List UInt8) : bndR (decR s) := by
  unfold decR
  split
  · exact bnd_c0 _
  · split
    · exact bnd_c0 _
    · split
      · exact bnd_c0 _
      · split
        · exact bnd_c0 _
        · exact bodyR_bnd _
theorem decodes_s (s : List UInt8) (hs : s.length ≤ 9223372036854775807) : PSpec Try.prog 52 [.str s] (· = .bool true) := by
  refine .of_codeF tab_ok Try.func52 (by rfl) rfl trivial ?_
  have hb := decR_bnd s
  have h1 := decode_s s hs
  have h2 := rdecode_s s hs
  generalize decR s = R at *
  obtain ⟨c, l, e⟩ := R
  obtain ⟨b1, b2, b3⟩ := hb
  have b1 : c.rs.length ≤ 12 := b1
  have b2 : l.length ≤ 4096 := b2
  have b3 : ∀ i, (l.getD i ev0).fl.length ≤ 1000000 := fun i => Nat.le_trans (b3 i) (by omega)
  conv => whnf
  refine h1.call ?_
  rintro _ rfl
  conv => whnf
  refine h2.call ?_
  rintro _ rfl
  have h3 := hcfg_s c (by omega)
  have h4 := hevs_s l (by omega) b3
  conv => whnf
  refine both_t (by simp) ?_
  conv => whnf
  refine (hcfg_s _ (by first | omega | assumption | decide | simp)).call ?_
  rintro _ rfl
  conv => whnf
  refine both_t rfl ?_
  conv => whnf
  -- CALL f=56 args=[SV.rs 6 (List.map evE (c, l, e).snd.fst), SV.rs 6 (List.map evE (c, l, e).snd.fst)] heap=[(0, Blk.fix 71 [SV.int IntKind.i64 (c, l, e).fst.mo, SV.int IntKind.i64 (c, l, e).fst.an, SV.int IntKind.i64 (c, l, e).fst.ad, SV.int IntKind.i64 (c, l, e).fst.pk, SV.int IntKind.i64 (c, l, e).fst.pq, SV.int IntKind.i64 (c, l, e).fst.pn, SV.int IntKind.i64 (c, l, e).fst.cp, SV.int IntKind.i64 (c, l, e).fst.cb, SV.int IntKind.i64 (c, l, e).fst.ca, SV.int IntKind.i64 (c, l, e).fst.tr, SV.int IntKind.i64 (c, l, e).fst.wi, SV.int IntKind.i64 (c, l, e).fst.qu, SV.int IntKind.i64 (c, l, e).fst.cy, SV.int IntKind.i64 (c, l, e).fst.re, SV.rs 2 (List.map rtE (c, l, e).fst.rs)]).snd, (1, Blk.fix 71 [SV.int IntKind.i64 (c, l, e).fst.mo, SV.int IntKind.i64 (c, l, e).fst.an, SV.int IntKind.i64 (c, l, e).fst.ad, SV.int IntKind.i64 (c, l, e).fst.pk, SV.int IntKind.i64 (c, l, e).fst.pq, SV.int IntKind.i64 (c, l, e).fst.pn, SV.int IntKind.i64 (c, l, e).fst.cp, SV.int IntKind.i64 (c, l, e).fst.cb, SV.int IntKind.i64 (c, l, e).fst.ca, SV.int IntKind.i64 (c, l, e).fst.tr, SV.int IntKind.i64 (c, l, e).fst.wi, SV.int IntKind.i64 (c, l, e).fst.qu, SV.int IntKind.i64 (c, l, e).fst.cy, SV.int IntKind.i64 (c, l, e).fst.re, SV.rs 2 (List.map rtE (c, l, e).fst.rs)]).snd]
  refine h4.call ?_
  rintro _ rfl
  conv => whnf
end Go.Proofs.Ytdommpfnoiemkaa

/- Chapter 27: both encoders compared. -/
namespace Go.Proofs.Ytdommpfnoiemkaa
open Go.Sx
set_option linter.unusedSimpArgs false
set_option linter.unusedVariables false
theorem encR_tup (c : Cf) (l : List Ev) : ∃ x y, encR c l = .tup [.str x, .int .i64 y] := by
  unfold encR
  split
  · exact ⟨_, _, rfl⟩
  · split
    · exact ⟨_, _, rfl⟩
    · split
      · exact ⟨_, _, rfl⟩
      · exact ⟨_, _, rfl⟩
theorem encodes_s (c : Cf) (l : List Ev) (hc : c.rs.length ≤ 9223372036854775807) (hl : l.length ≤ 9223372036854775807) : PSpec Try.prog 50 [cfE c, .rs 6 (l.map evE)] (· = .bool true) := by
  refine .of_codeF tab_ok Try.func50 (by rfl) rfl trivial ?_
  have h1 := encode_s c l hc hl
  have h2 := rencode_s c l hc hl
  obtain ⟨x, y, e⟩ := encR_tup c l
  rw [e] at h1 h2
  conv => whnf
  refine h1.call ?_
  rintro _ rfl
  conv => whnf
  refine h2.call ?_
  rintro _ rfl
  conv => whnf
  refine both_t (by simp) ?_
  conv => whnf
  simp
end Go.Proofs.Ytdommpfnoiemkaa

/- A function that makes blocks, cut behind its first statements. No statement of the seat is proved here. -/
namespace Go.Sx
section
variable {P : Program} {T : Tab}
theorem GSpec.of_cut (hT : TabOK P T) (n : Nat) {f : FuncId} {fn : Func} {c : Code} {args : List SV} {hin : Hp} {R : SV → Hp → Prop} (hf : P.funcs[f]? = some fn) (hn : (fn.name == "runtime.NumGoroutine") = false)
    (hb : fn.body = some c) (hk : startK args fn.ntmps fun F => cutK P T hin.length n c F hin (retK T fn fun s h' => OutG hin.length s h' R)) : GSpec P f args hin R :=
  ⟨⟨fun w X σ vs hI hr => ((CallG.of_cut hT n hf hn hb hk).ok w X σ vs hI hr).mono fun v w' ⟨s, h', σ', ho, hrep, hI', hS⟩ => by
    obtain ⟨s', h'', hR, hgo⟩ := ho.ok
    obtain ⟨σ'', hI'', hrep', hS'⟩ := hgo w' X σ' v hI' hrep
    have hl : σ.length = hin.length := hI.len
    exact ⟨s', h'', σ'', hR, hrep', hI'', hS.trans (hl ▸ hS')⟩⟩⟩
end
end Go.Sx

/- Chapter 27: drawn events. -/
namespace Go.Proofs.Ytdommpfnoiemkaa
open Go.Sx
set_option linter.unusedSimpArgs false
set_option linter.unusedVariables false
theorem ex4 {A B C D : Type} {P : A × B × C × D → Prop} {Q : { x // P x } → Prop} (i : A) {e : B} {l : C} {b : D} (c1 : P (i, e, l, b)) (h : Q ⟨(i, e, l, b), c1⟩) : ∃ x, Q x := ⟨_, h⟩
def kdL : List Int := [0, 14, 1, 6, 4, 5]
theorem kd_get {i : Int} (h0 : 0 ≤ i) (h1 : i < 6) : [[SV.int .i64 0], [SV.int .i64 14], [SV.int .i64 1], [SV.int .i64 6], [SV.int .i64 4], [SV.int .i64 5]][i.toNat]? = some [SV.int .i64 (kdL.getD i.toNat 0)] := by
  have : i = 0 ∨ i = 1 ∨ i = 2 ∨ i = 3 ∨ i = 4 ∨ i = 5 := by omega
  rcases this with rfl | rfl | rfl | rfl | rfl | rfl <;> rfl
set_option maxRecDepth 100000 in
set_option maxHeartbeats 8000000 in
theorem gevents_s (ls : List Int) (a : Int) (n : Nat) (hn : n ≤ 100) (h0 : 0 ≤ a) (h1 : a < 9223372036854700000) :
    GSpec Try.prog 49 [.ptr 0 0, .int .i64 (n : Int)] [chs ls a] fun v ho => ∃ (es : List (List SV)) (l : List Ev) (a' : Int), v = .sl 1 ∧ ho = [chs ls a', .row 74 6 es] ∧ RwE es l ∧ l.length ≤ 11 + n ∧ 1 ≤ l.length ∧ a ≤ a' ∧ a' ≤ a + 30 + 20 * n := by
  refine .of_cut tab_ok 2 Try.func49 (by rfl) rfl ?_
  conv => whnf
  refine (gbegin_s ls a (by omega) (by omega)).call [0, 1, 2] (by rfl) trivial (And.intro rfl (And.intro rfl trivial)) ?_
  rintro _ _ ⟨es, m, st, fl, a1, rfl, rfl, hes, hm1, hm, hw, a0, a2⟩
  conv => whnf
  refine XG.freezeH 2 ?_
  conv => whnf
  refine XG.same ?_
  conv => whnf
  obtain ⟨hml, l0, hl0⟩ := hes
  have hl0l : l0.length = m := by rw [← hl0.1, hml]
  obtain ⟨w0, w1, w2, w3⟩ := id hw
  have hfl : (nums fl).length = fl.length := nums_len fl
  refine LoopG.inv tab_ok 149 (fun x : { x : Nat × List (List SV) × List Ev × Int // x.1 ≤ n ∧ RwE x.2.1 x.2.2.1 ∧ 1 ≤ x.2.2.1.length ∧ x.2.2.1.length ≤ 11 + x.1 ∧ a ≤ x.2.2.2 ∧ x.2.2.2 ≤ a + 30 + 20 * x.1 } => [(0, .ptr 0 0), (1, .int .i64 (n : Int)), (5, .sl 1), (6, .ptr 2 0), (7, .int .i64 (x.1.1 : Int))])
    (fun x => [chs ls x.1.2.2.2, .row 74 6 x.1.2.1, .fix 123 [.int .i64 (st : Int), .rs 1 (nums fl)]]) (fun x => n - x.1.1) ⟨(0, es, l0, a1), by show 0 ≤ n; omega, hl0, by show 1 ≤ l0.length; omega, by show l0.length ≤ 11 + 0; omega, a0, by show a1 ≤ a + 30 + 20 * (0 : Nat); omega⟩ (.of [some 0, some 1, some 3] (by rfl) ?_) ?_
  · conv => whnf
    refine ⟨by rfl, ?_⟩
    conv => whnf
    refine ⟨by rfl, ?_⟩
    conv => whnf
    refine ⟨by rfl, ?_⟩
    conv => whnf
    refine ⟨by rfl, ?_⟩
    conv => whnf
    refine ⟨by rfl, ?_⟩
    conv => whnf
    refine ⟨by rfl, ?_⟩
    conv => whnf
    refine ⟨by rfl, ?_⟩
    conv => whnf
    exact trivial
  · intro x
    obtain ⟨⟨i, es, l, b⟩, h2, h3, h4, h5, h6, h7⟩ := x
    have h2 : i ≤ n := h2
    have h3 : RwE es l := h3
    have h4 : 1 ≤ l.length := h4
    have h5 : l.length ≤ 11 + i := h5
    have h6 : a ≤ b := h6
    have h7 : b ≤ a + 30 + 20 * i := h7
    have hm : es.length = l.length := h3.1
    conv => whnf
    refine ⟨fun hb => ?_, fun hb => ?_⟩
    · have hb : i < n := by simp only [decide_eq_true_eq] at hb; omega
      conv => whnf
      refine (next_s _ _ _ (by first | omega | (dsimp only at *; omega) | assumption | decide | simp) (by first | omega | (dsimp only at *; omega) | assumption | decide | simp) (by first | omega | (dsimp only at *; omega) | assumption | decide | simp)).call [0] (by decide) (And.intro rfl trivial) (And.intro rfl trivial) ?_
      rintro _ _ ⟨rfl, rfl⟩
      conv => whnf
      refine (next_s _ _ _ (by first | omega | (dsimp only at *; omega) | assumption | decide | simp) (by first | omega | (dsimp only at *; omega) | assumption | decide | simp) (by first | omega | (dsimp only at *; omega) | assumption | decide | simp)).call [0] (by decide) (And.intro rfl trivial) (And.intro rfl trivial) ?_
      rintro _ _ ⟨rfl, rfl⟩
      conv => whnf
      refine ⟨fun hh20 => ?_, fun hh20 => ?_⟩
      · simp only [decide_eq_true_eq, decide_eq_false_iff_not] at hh20
        conv => whnf
        refine (next_s _ _ _ (by first | omega | (dsimp only at *; omega) | assumption | decide | simp) (by first | omega | (dsimp only at *; omega) | assumption | decide | simp) (by first | omega | (dsimp only at *; omega) | assumption | decide | simp)).call [0] (by decide) (And.intro rfl trivial) (And.intro rfl trivial) ?_
        rintro _ _ ⟨rfl, rfl⟩
        conv => whnf
        refine ⟨by simp; omega, ?_⟩
        conv => whnf
        (dsimp only at *; refine' ex4 (i + 1) ?c1 ⟨?c2, .of [some 0, some 4, some 2] (by rfl) ?c3⟩; (case c3 => ((conv => whnf); (repeat (first | exact trivial | (refine ⟨rfl, ?_⟩; (conv => whnf)) | (refine ⟨(w64 _ (by omega) (by omega)).trans (by simp), ?_⟩; (conv => whnf)))))); (case c1 => (exact ⟨(by omega), (by first | exact h3 | exact h3.app (sle_evN _ _ _ _ _) | exact h3.app (e := ⟨_, _, _, _, _, _⟩) (.refl _)), (by simp only [List.length_append, List.length_cons, List.length_nil]; omega), (by simp only [List.length_append, List.length_cons, List.length_nil]; omega), (by dsimp only; omega), (by dsimp only; omega)⟩));  (case c2 => (show n - (i + 1) < n - i; omega)))
      · simp only [decide_eq_true_eq, decide_eq_false_iff_not] at hh20
        conv => whnf
        refine ⟨fun hh32 => ?_, fun hh32 => ?_⟩
        · simp only [decide_eq_true_eq, decide_eq_false_iff_not] at hh32
          conv => whnf
          refine (next_s _ _ _ (by first | omega | (dsimp only at *; omega) | assumption | decide | simp) (by first | omega | (dsimp only at *; omega) | assumption | decide | simp) (by first | omega | (dsimp only at *; omega) | assumption | decide | simp)).call [0] (by decide) (And.intro rfl trivial) (And.intro rfl trivial) ?_
          rintro _ _ ⟨rfl, rfl⟩
          conv => whnf
          refine ⟨by simp; omega, ?_⟩
          conv => whnf
          (dsimp only at *; refine' ex4 (i + 1) ?c1 ⟨?c2, .of [some 0, some 4, some 2] (by rfl) ?c3⟩; (case c3 => ((conv => whnf); (repeat (first | exact trivial | (refine ⟨rfl, ?_⟩; (conv => whnf)) | (refine ⟨(w64 _ (by omega) (by omega)).trans (by simp), ?_⟩; (conv => whnf)))))); (case c1 => (exact ⟨(by omega), (by first | exact h3 | exact h3.app (sle_evN _ _ _ _ _) | exact h3.app (e := ⟨_, _, _, _, _, _⟩) (.refl _)), (by simp only [List.length_append, List.length_cons, List.length_nil]; omega), (by simp only [List.length_append, List.length_cons, List.length_nil]; omega), (by dsimp only; omega), (by dsimp only; omega)⟩));  (case c2 => (show n - (i + 1) < n - i; omega)))
        · simp only [decide_eq_true_eq, decide_eq_false_iff_not] at hh32
          conv => whnf
          refine ⟨fun hh44 => ?_, fun hh44 => ?_⟩
          · simp only [decide_eq_true_eq, decide_eq_false_iff_not] at hh44
            conv => whnf
            refine (next_s _ _ _ (by first | omega | (dsimp only at *; omega) | assumption | decide | simp) (by first | omega | (dsimp only at *; omega) | assumption | decide | simp) (by first | omega | (dsimp only at *; omega) | assumption | decide | simp)).call [0] (by decide) (And.intro rfl trivial) (And.intro rfl trivial) ?_
            rintro _ _ ⟨rfl, rfl⟩
            conv => whnf
            refine (next_s _ _ _ (by first | omega | (dsimp only at *; omega) | assumption | decide | simp) (by first | omega | (dsimp only at *; omega) | assumption | decide | simp) (by first | omega | (dsimp only at *; omega) | assumption | decide | simp)).call [0] (by decide) (And.intro rfl trivial) (And.intro rfl trivial) ?_
            rintro _ _ ⟨rfl, rfl⟩
            conv => whnf
            refine ⟨by simp; omega, ?_⟩
            conv => whnf
            (dsimp only at *; refine' ex4 (i + 1) ?c1 ⟨?c2, .of [some 0, some 4, some 2] (by rfl) ?c3⟩; (case c3 => ((conv => whnf); (repeat (first | exact trivial | (refine ⟨rfl, ?_⟩; (conv => whnf)) | (refine ⟨(w64 _ (by omega) (by omega)).trans (by simp), ?_⟩; (conv => whnf)))))); (case c1 => (exact ⟨(by omega), (by first | exact h3 | exact h3.app (sle_evN _ _ _ _ _) | exact h3.app (e := ⟨_, _, _, _, _, _⟩) (.refl _)), (by simp only [List.length_append, List.length_cons, List.length_nil]; omega), (by simp only [List.length_append, List.length_cons, List.length_nil]; omega), (by dsimp only; omega), (by dsimp only; omega)⟩));  (case c2 => (show n - (i + 1) < n - i; omega)))
          · simp only [decide_eq_true_eq, decide_eq_false_iff_not] at hh44
            conv => whnf
            refine ⟨fun hh66 => ?_, fun hh66 => ?_⟩
            · simp only [decide_eq_true_eq, decide_eq_false_iff_not] at hh66
              conv => whnf
              refine (next_s _ _ _ (by first | omega | (dsimp only at *; omega) | assumption | decide | simp) (by first | omega | (dsimp only at *; omega) | assumption | decide | simp) (by first | omega | (dsimp only at *; omega) | assumption | decide | simp)).call [0] (by decide) (And.intro rfl trivial) (And.intro rfl trivial) ?_
              rintro _ _ ⟨rfl, rfl⟩
              conv => whnf
              refine (next_s _ _ _ (by first | omega | (dsimp only at *; omega) | assumption | decide | simp) (by first | omega | (dsimp only at *; omega) | assumption | decide | simp) (by first | omega | (dsimp only at *; omega) | assumption | decide | simp)).call [0] (by decide) (And.intro rfl trivial) (And.intro rfl trivial) ?_
              rintro _ _ ⟨rfl, rfl⟩
              conv => whnf
              refine ⟨by simp; omega, ?_⟩
              conv => whnf
              (dsimp only at *; refine' ex4 (i + 1) ?c1 ⟨?c2, .of [some 0, some 4, some 2] (by rfl) ?c3⟩; (case c3 => ((conv => whnf); (repeat (first | exact trivial | (refine ⟨rfl, ?_⟩; (conv => whnf)) | (refine ⟨(w64 _ (by omega) (by omega)).trans (by simp), ?_⟩; (conv => whnf)))))); (case c1 => (exact ⟨(by omega), (by first | exact h3 | exact h3.app (sle_evN _ _ _ _ _) | exact h3.app (e := ⟨_, _, _, _, _, _⟩) (.refl _)), (by simp only [List.length_append, List.length_cons, List.length_nil]; omega), (by simp only [List.length_append, List.length_cons, List.length_nil]; omega), (by dsimp only; omega), (by dsimp only; omega)⟩));  (case c2 => (show n - (i + 1) < n - i; omega)))
            · simp only [decide_eq_true_eq, decide_eq_false_iff_not] at hh66
              conv => whnf
              refine ⟨fun hh88 => ?_, fun hh88 => ?_⟩
              · simp only [decide_eq_true_eq, decide_eq_false_iff_not] at hh88
                conv => whnf
                refine (next_s _ _ _ (by first | omega | (dsimp only at *; omega) | assumption | decide | simp) (by first | omega | (dsimp only at *; omega) | assumption | decide | simp) (by first | omega | (dsimp only at *; omega) | assumption | decide | simp)).call [0] (by decide) (And.intro rfl trivial) (And.intro rfl trivial) ?_
                rintro _ _ ⟨rfl, rfl⟩
                conv => whnf
                refine ⟨fun hh99 => ?_, fun hh99 => ?_⟩
                · simp only [decide_eq_true_eq, decide_eq_false_iff_not] at hh99
                  conv => whnf
                  refine ⟨by simp; omega, ?_⟩
                  conv => whnf
                  (dsimp only at *; refine' ex4 (i + 1) ?c1 ⟨?c2, .of [some 0, some 4, some 2] (by rfl) ?c3⟩; (case c3 => ((conv => whnf); (repeat (first | exact trivial | (refine ⟨rfl, ?_⟩; (conv => whnf)) | (refine ⟨(w64 _ (by omega) (by omega)).trans (by simp), ?_⟩; (conv => whnf)))))); (case c1 => (exact ⟨(by omega), (by first | exact h3 | exact h3.app (sle_evN _ _ _ _ _) | exact h3.app (e := ⟨_, _, _, _, _, _⟩) (.refl _)), (by simp only [List.length_append, List.length_cons, List.length_nil]; omega), (by simp only [List.length_append, List.length_cons, List.length_nil]; omega), (by dsimp only; omega), (by dsimp only; omega)⟩));  (case c2 => (show n - (i + 1) < n - i; omega)))
                · simp only [decide_eq_true_eq, decide_eq_false_iff_not] at hh99
                  conv => whnf
                  (dsimp only at *; refine' ex4 (i + 1) ?c1 ⟨?c2, .of [some 0, some 1, some 2] (by rfl) ?c3⟩; (case c3 => ((conv => whnf); (repeat (first | exact trivial | (refine ⟨rfl, ?_⟩; (conv => whnf)) | (refine ⟨(w64 _ (by omega) (by omega)).trans (by simp), ?_⟩; (conv => whnf)))))); (case c1 => (exact ⟨(by omega), (by first | exact h3 | exact h3.app (sle_evN _ _ _ _ _) | exact h3.app (e := ⟨_, _, _, _, _, _⟩) (.refl _)), (by simp only [List.length_append, List.length_cons, List.length_nil]; omega), (by simp only [List.length_append, List.length_cons, List.length_nil]; omega), (by dsimp only; omega), (by dsimp only; omega)⟩));  (case c2 => (show n - (i + 1) < n - i; omega)))
              · simp only [decide_eq_true_eq, decide_eq_false_iff_not] at hh88
                conv => whnf
                refine ⟨fun hh102 => ?_, fun hh102 => ?_⟩
                · simp only [decide_eq_true_eq, decide_eq_false_iff_not] at hh102
                  conv => whnf
                  refine (next_s _ _ _ (by first | omega | (dsimp only at *; omega) | assumption | decide | simp) (by first | omega | (dsimp only at *; omega) | assumption | decide | simp) (by first | omega | (dsimp only at *; omega) | assumption | decide | simp)).call [0] (by decide) (And.intro rfl trivial) (And.intro rfl trivial) ?_
                  rintro _ _ ⟨rfl, rfl⟩
                  conv => whnf
                  refine ⟨fun hh113 => ?_, fun hh113 => ?_⟩
                  · simp only [decide_eq_true_eq, decide_eq_false_iff_not] at hh113
                    conv => whnf
                    refine (next_s _ _ _ (by first | omega | (dsimp only at *; omega) | assumption | decide | simp) (by first | omega | (dsimp only at *; omega) | assumption | decide | simp) (by first | omega | (dsimp only at *; omega) | assumption | decide | simp)).call [0] (by decide) (And.intro rfl trivial) (And.intro rfl trivial) ?_
                    rintro _ _ ⟨rfl, rfl⟩
                    conv => whnf
                    refine ⟨by simp; omega, ?_⟩
                    conv => whnf
                    (dsimp only at *; refine' ex4 (i + 1) ?c1 ⟨?c2, .of [some 0, some 4, some 2] (by rfl) ?c3⟩; (case c3 => ((conv => whnf); (repeat (first | exact trivial | (refine ⟨rfl, ?_⟩; (conv => whnf)) | (refine ⟨(w64 _ (by omega) (by omega)).trans (by simp), ?_⟩; (conv => whnf)))))); (case c1 => (exact ⟨(by omega), (by first | exact h3 | exact h3.app (sle_evN _ _ _ _ _) | exact h3.app (e := ⟨_, _, _, _, _, _⟩) (.refl _)), (by simp only [List.length_append, List.length_cons, List.length_nil]; omega), (by simp only [List.length_append, List.length_cons, List.length_nil]; omega), (by dsimp only; omega), (by dsimp only; omega)⟩));  (case c2 => (show n - (i + 1) < n - i; omega)))
                  · simp only [decide_eq_true_eq, decide_eq_false_iff_not] at hh113
                    conv => whnf
                    (dsimp only at *; refine' ex4 (i + 1) ?c1 ⟨?c2, .of [some 0, some 1, some 2] (by rfl) ?c3⟩; (case c3 => ((conv => whnf); (repeat (first | exact trivial | (refine ⟨rfl, ?_⟩; (conv => whnf)) | (refine ⟨(w64 _ (by omega) (by omega)).trans (by simp), ?_⟩; (conv => whnf)))))); (case c1 => (exact ⟨(by omega), (by first | exact h3 | exact h3.app (sle_evN _ _ _ _ _) | exact h3.app (e := ⟨_, _, _, _, _, _⟩) (.refl _)), (by simp only [List.length_append, List.length_cons, List.length_nil]; omega), (by simp only [List.length_append, List.length_cons, List.length_nil]; omega), (by dsimp only; omega), (by dsimp only; omega)⟩));  (case c2 => (show n - (i + 1) < n - i; omega)))
                · simp only [decide_eq_true_eq, decide_eq_false_iff_not] at hh102
                  conv => whnf
                  refine ⟨fun hh126 => ?_, fun hh126 => ?_⟩
                  · simp only [decide_eq_true_eq, decide_eq_false_iff_not] at hh126
                    conv => whnf
                    refine (next_s _ _ _ (by first | omega | (dsimp only at *; omega) | assumption | decide | simp) (by first | omega | (dsimp only at *; omega) | assumption | decide | simp) (by first | omega | (dsimp only at *; omega) | assumption | decide | simp)).call [0] (by decide) (And.intro rfl trivial) (And.intro rfl trivial) ?_
                    rintro _ _ ⟨rfl, rfl⟩
                    conv => whnf
                    refine ⟨by simp; omega, ?_⟩
                    conv => whnf
                    (dsimp only at *; refine' ex4 (i + 1) ?c1 ⟨?c2, .of [some 0, some 4, some 2] (by rfl) ?c3⟩; (case c3 => ((conv => whnf); (repeat (first | exact trivial | (refine ⟨rfl, ?_⟩; (conv => whnf)) | (refine ⟨(w64 _ (by omega) (by omega)).trans (by simp), ?_⟩; (conv => whnf)))))); (case c1 => (exact ⟨(by omega), (by first | exact h3 | exact h3.app (sle_evN _ _ _ _ _) | exact h3.app (e := ⟨_, _, _, _, _, _⟩) (.refl _)), (by simp only [List.length_append, List.length_cons, List.length_nil]; omega), (by simp only [List.length_append, List.length_cons, List.length_nil]; omega), (by dsimp only; omega), (by dsimp only; omega)⟩));  (case c2 => (show n - (i + 1) < n - i; omega)))
                  · simp only [decide_eq_true_eq, decide_eq_false_iff_not] at hh126
                    conv => whnf
                    refine ⟨fun hh138 => ?_, fun hh138 => ?_⟩
                    · simp only [decide_eq_true_eq, decide_eq_false_iff_not] at hh138
                      conv => whnf
                      refine (gflags_s _ _ _ (by first | omega | (dsimp only at *; omega) | assumption | decide | simp) (by first | omega | (dsimp only at *; omega) | assumption | decide | simp) (by first | omega | (dsimp only at *; omega) | assumption | decide | simp)).call [0] (by decide) (And.intro rfl trivial) (And.intro rfl trivial) ?_
                      rintro _ _ ⟨u139, rfl, rfl, g140⟩
                      conv => whnf
                      refine ⟨by simp; omega, ?_⟩
                      conv => whnf
                      (dsimp only at *; refine' ex4 (i + 1) ?c1 ⟨?c2, .of [some 0, some 4, some 2] (by rfl) ?c3⟩; (case c3 => ((conv => whnf); (repeat (first | exact trivial | (refine ⟨rfl, ?_⟩; (conv => whnf)) | (refine ⟨(w64 _ (by omega) (by omega)).trans (by simp), ?_⟩; (conv => whnf)))))); (case c1 => (exact ⟨(by omega), (by first | exact h3 | exact h3.app (sle_evN _ _ _ _ _) | exact h3.app (e := ⟨_, _, _, _, _, _⟩) (.refl _)), (by simp only [List.length_append, List.length_cons, List.length_nil]; omega), (by simp only [List.length_append, List.length_cons, List.length_nil]; omega), (by dsimp only; omega), (by dsimp only; omega)⟩));  (case c2 => (show n - (i + 1) < n - i; omega)))
                    · simp only [decide_eq_true_eq, decide_eq_false_iff_not] at hh138
                      conv => whnf
                      refine ⟨fun hh150 => ?_, fun hh150 => ?_⟩
                      · simp only [decide_eq_true_eq, decide_eq_false_iff_not] at hh150
                        conv => whnf
                        refine DrawG.of mixed tab_ok ?_
                        conv => whnf
                        refine (next_s _ _ _ (by first | omega | (dsimp only at *; omega) | assumption | decide | simp) (by first | omega | (dsimp only at *; omega) | assumption | decide | simp) (by first | omega | (dsimp only at *; omega) | assumption | decide | simp)).calld [0] (by decide) rfl (And.intro rfl trivial) (And.intro rfl trivial) ?_
                        conv => whnf
                        refine ⟨by (exact ⟨nxt_lo _ _ _, nxt_hi _ _ _ (by omega)⟩), ?_⟩
                        conv => whnf
                        (refine ⟨_, kd_get (nxt_lo _ _ _) (nxt_hi _ _ _ (by omega)), ?_⟩)
                        conv => whnf
                        refine (next_s _ _ _ (by first | omega | (dsimp only at *; omega) | assumption | decide | simp) (by first | omega | (dsimp only at *; omega) | assumption | decide | simp) (by first | omega | (dsimp only at *; omega) | assumption | decide | simp)).calld [0] (by decide) rfl (And.intro rfl trivial) (And.intro rfl trivial) ?_
                        conv => whnf
                        refine (next_s _ _ _ (by first | omega | (dsimp only at *; omega) | assumption | decide | simp) (by first | omega | (dsimp only at *; omega) | assumption | decide | simp) (by first | omega | (dsimp only at *; omega) | assumption | decide | simp)).calld [0] (by decide) rfl (And.intro rfl trivial) (And.intro rfl trivial) ?_
                        conv => whnf
                        refine (gname_s _ _ (by first | omega | (dsimp only at *; omega) | assumption | decide | simp) (by first | omega | (dsimp only at *; omega) | assumption | decide | simp)).calld [0] (by decide) rfl trivial (And.intro rfl trivial) ?_
                        conv => whnf
                        refine ⟨by simp; omega, ?_⟩
                        conv => whnf
                        refine ⟨by kernel_rfl, ?_⟩
                        conv => whnf
                        (dsimp only at *; refine' ex4 (i + 1) ?c1 ⟨?c2, .of [some 0, some 9, some 2] (by rfl) ?c3⟩; (case c3 => ((conv => whnf); (repeat (first | exact trivial | (refine ⟨rfl, ?_⟩; (conv => whnf)) | (refine ⟨(w64 _ (by omega) (by omega)).trans (by simp), ?_⟩; (conv => whnf)))))); (case c1 => (exact ⟨(by omega), (by first | exact h3 | exact h3.app (sle_evN _ _ _ _ _) | exact h3.app (e := ⟨_, _, _, _, _, _⟩) (.refl _)), (by simp only [List.length_append, List.length_cons, List.length_nil]; omega), (by simp only [List.length_append, List.length_cons, List.length_nil]; omega), (by dsimp only; omega), (by dsimp only; omega)⟩));  (case c2 => (show n - (i + 1) < n - i; omega)))
                      · simp only [decide_eq_true_eq, decide_eq_false_iff_not] at hh150
                        conv => whnf
                        refine ⟨fun hh193 => ?_, fun hh193 => ?_⟩
                        · simp only [decide_eq_true_eq, decide_eq_false_iff_not] at hh193
                          conv => whnf
                          refine (garr_s _ _ _ _ (by first | omega | (dsimp only at *; omega) | assumption | decide | simp) (by first | omega | (dsimp only at *; omega) | assumption | decide | simp) (by first | omega | (dsimp only at *; omega) | assumption | decide | simp)).call [0] (by decide) (And.intro rfl trivial) (And.intro rfl trivial) ?_
                          rintro _ _ ⟨u194, u195, rfl, rfl, g196, g197, g198⟩
                          conv => whnf
                          refine ⟨by simp; omega, ?_⟩
                          conv => whnf
                          (dsimp only at *; refine' ex4 (i + 1) ?c1 ⟨?c2, .of [some 0, some 4, some 2] (by rfl) ?c3⟩; (case c3 => ((conv => whnf); (repeat (first | exact trivial | (refine ⟨rfl, ?_⟩; (conv => whnf)) | (refine ⟨(w64 _ (by omega) (by omega)).trans (by simp), ?_⟩; (conv => whnf)))))); (case c1 => (exact ⟨(by omega), (by first | exact h3 | exact h3.app (sle_evN _ _ _ _ _) | exact h3.app (e := ⟨_, _, _, _, _, _⟩) (.refl _)), (by simp only [List.length_append, List.length_cons, List.length_nil]; omega), (by simp only [List.length_append, List.length_cons, List.length_nil]; omega), (by dsimp only; omega), (by dsimp only; omega)⟩));  (case c2 => (show n - (i + 1) < n - i; omega)))
                        · simp only [decide_eq_true_eq, decide_eq_false_iff_not] at hh193
                          conv => whnf
                          refine ⟨fun hh205 => ?_, fun hh205 => ?_⟩
                          · simp only [decide_eq_true_eq, decide_eq_false_iff_not] at hh205
                            conv => whnf
                            refine (garr_s _ _ _ _ (by first | omega | (dsimp only at *; omega) | assumption | decide | simp) (by first | omega | (dsimp only at *; omega) | assumption | decide | simp) (by first | omega | (dsimp only at *; omega) | assumption | decide | simp)).call [0] (by decide) (And.intro rfl trivial) (And.intro rfl trivial) ?_
                            rintro _ _ ⟨u206, u207, rfl, rfl, g208, g209, g210⟩
                            conv => whnf
                            refine ⟨by simp; omega, ?_⟩
                            conv => whnf
                            (dsimp only at *; refine' ex4 (i + 1) ?c1 ⟨?c2, .of [some 0, some 4, some 2] (by rfl) ?c3⟩; (case c3 => ((conv => whnf); (repeat (first | exact trivial | (refine ⟨rfl, ?_⟩; (conv => whnf)) | (refine ⟨(w64 _ (by omega) (by omega)).trans (by simp), ?_⟩; (conv => whnf)))))); (case c1 => (exact ⟨(by omega), (by first | exact h3 | exact h3.app (sle_evN _ _ _ _ _) | exact h3.app (e := ⟨_, _, _, _, _, _⟩) (.refl _)), (by simp only [List.length_append, List.length_cons, List.length_nil]; omega), (by simp only [List.length_append, List.length_cons, List.length_nil]; omega), (by dsimp only; omega), (by dsimp only; omega)⟩));  (case c2 => (show n - (i + 1) < n - i; omega)))
                          · simp only [decide_eq_true_eq, decide_eq_false_iff_not] at hh205
                            conv => whnf
                            refine ⟨fun hh217 => ?_, fun hh217 => ?_⟩
                            · simp only [decide_eq_true_eq, decide_eq_false_iff_not] at hh217
                              conv => whnf
                              refine (garr_s _ _ _ _ (by first | omega | (dsimp only at *; omega) | assumption | decide | simp) (by first | omega | (dsimp only at *; omega) | assumption | decide | simp) (by first | omega | (dsimp only at *; omega) | assumption | decide | simp)).call [0] (by decide) (And.intro rfl trivial) (And.intro rfl trivial) ?_
                              rintro _ _ ⟨u218, u219, rfl, rfl, g220, g221, g222⟩
                              conv => whnf
                              refine ⟨by simp; omega, ?_⟩
                              conv => whnf
                              (dsimp only at *; refine' ex4 (i + 1) ?c1 ⟨?c2, .of [some 0, some 4, some 2] (by rfl) ?c3⟩; (case c3 => ((conv => whnf); (repeat (first | exact trivial | (refine ⟨rfl, ?_⟩; (conv => whnf)) | (refine ⟨(w64 _ (by omega) (by omega)).trans (by simp), ?_⟩; (conv => whnf)))))); (case c1 => (exact ⟨(by omega), (by first | exact h3 | exact h3.app (sle_evN _ _ _ _ _) | exact h3.app (e := ⟨_, _, _, _, _, _⟩) (.refl _)), (by simp only [List.length_append, List.length_cons, List.length_nil]; omega), (by simp only [List.length_append, List.length_cons, List.length_nil]; omega), (by dsimp only; omega), (by dsimp only; omega)⟩));  (case c2 => (show n - (i + 1) < n - i; omega)))
                            · simp only [decide_eq_true_eq, decide_eq_false_iff_not] at hh217
                              conv => whnf
                              refine ⟨fun hh229 => ?_, fun hh229 => ?_⟩
                              · simp only [decide_eq_true_eq, decide_eq_false_iff_not] at hh229
                                conv => whnf
                                refine (garr_s _ _ _ _ (by first | omega | (dsimp only at *; omega) | assumption | decide | simp) (by first | omega | (dsimp only at *; omega) | assumption | decide | simp) (by first | omega | (dsimp only at *; omega) | assumption | decide | simp)).call [0] (by decide) (And.intro rfl trivial) (And.intro rfl trivial) ?_
                                rintro _ _ ⟨u230, u231, rfl, rfl, g232, g233, g234⟩
                                conv => whnf
                                refine ⟨by simp; omega, ?_⟩
                                conv => whnf
                                (dsimp only at *; refine' ex4 (i + 1) ?c1 ⟨?c2, .of [some 0, some 4, some 2] (by rfl) ?c3⟩; (case c3 => ((conv => whnf); (repeat (first | exact trivial | (refine ⟨rfl, ?_⟩; (conv => whnf)) | (refine ⟨(w64 _ (by omega) (by omega)).trans (by simp), ?_⟩; (conv => whnf)))))); (case c1 => (exact ⟨(by omega), (by first | exact h3 | exact h3.app (sle_evN _ _ _ _ _) | exact h3.app (e := ⟨_, _, _, _, _, _⟩) (.refl _)), (by simp only [List.length_append, List.length_cons, List.length_nil]; omega), (by simp only [List.length_append, List.length_cons, List.length_nil]; omega), (by dsimp only; omega), (by dsimp only; omega)⟩));  (case c2 => (show n - (i + 1) < n - i; omega)))
                              · simp only [decide_eq_true_eq, decide_eq_false_iff_not] at hh229
                                conv => whnf
                                refine ⟨fun hh241 => ?_, fun hh241 => ?_⟩
                                · simp only [decide_eq_true_eq, decide_eq_false_iff_not] at hh241
                                  conv => whnf
                                  refine (garr_s _ _ _ _ (by first | omega | (dsimp only at *; omega) | assumption | decide | simp) (by first | omega | (dsimp only at *; omega) | assumption | decide | simp) (by first | omega | (dsimp only at *; omega) | assumption | decide | simp)).call [0] (by decide) (And.intro rfl trivial) (And.intro rfl trivial) ?_
                                  rintro _ _ ⟨u242, u243, rfl, rfl, g244, g245, g246⟩
                                  conv => whnf
                                  refine ⟨by simp; omega, ?_⟩
                                  conv => whnf
                                  (dsimp only at *; refine' ex4 (i + 1) ?c1 ⟨?c2, .of [some 0, some 4, some 2] (by rfl) ?c3⟩; (case c3 => ((conv => whnf); (repeat (first | exact trivial | (refine ⟨rfl, ?_⟩; (conv => whnf)) | (refine ⟨(w64 _ (by omega) (by omega)).trans (by simp), ?_⟩; (conv => whnf)))))); (case c1 => (exact ⟨(by omega), (by first | exact h3 | exact h3.app (sle_evN _ _ _ _ _) | exact h3.app (e := ⟨_, _, _, _, _, _⟩) (.refl _)), (by simp only [List.length_append, List.length_cons, List.length_nil]; omega), (by simp only [List.length_append, List.length_cons, List.length_nil]; omega), (by dsimp only; omega), (by dsimp only; omega)⟩));  (case c2 => (show n - (i + 1) < n - i; omega)))
                                · simp only [decide_eq_true_eq, decide_eq_false_iff_not] at hh241
                                  conv => whnf
                                  refine ⟨fun hh253 => ?_, fun hh253 => ?_⟩
                                  · simp only [decide_eq_true_eq, decide_eq_false_iff_not] at hh253
                                    conv => whnf
                                    refine (garr_s _ _ _ _ (by first | omega | (dsimp only at *; omega) | assumption | decide | simp) (by first | omega | (dsimp only at *; omega) | assumption | decide | simp) (by first | omega | (dsimp only at *; omega) | assumption | decide | simp)).call [0] (by decide) (And.intro rfl trivial) (And.intro rfl trivial) ?_
                                    rintro _ _ ⟨u254, u255, rfl, rfl, g256, g257, g258⟩
                                    conv => whnf
                                    refine ⟨by simp; omega, ?_⟩
                                    conv => whnf
                                    (dsimp only at *; refine' ex4 (i + 1) ?c1 ⟨?c2, .of [some 0, some 4, some 2] (by rfl) ?c3⟩; (case c3 => ((conv => whnf); (repeat (first | exact trivial | (refine ⟨rfl, ?_⟩; (conv => whnf)) | (refine ⟨(w64 _ (by omega) (by omega)).trans (by simp), ?_⟩; (conv => whnf)))))); (case c1 => (exact ⟨(by omega), (by first | exact h3 | exact h3.app (sle_evN _ _ _ _ _) | exact h3.app (e := ⟨_, _, _, _, _, _⟩) (.refl _)), (by simp only [List.length_append, List.length_cons, List.length_nil]; omega), (by simp only [List.length_append, List.length_cons, List.length_nil]; omega), (by dsimp only; omega), (by dsimp only; omega)⟩));  (case c2 => (show n - (i + 1) < n - i; omega)))
                                  · simp only [decide_eq_true_eq, decide_eq_false_iff_not] at hh253
                                    conv => whnf
                                    refine ⟨fun hh265 => ?_, fun hh265 => ?_⟩
                                    · simp only [decide_eq_true_eq, decide_eq_false_iff_not] at hh265
                                      conv => whnf
                                      refine (garr_s _ _ _ _ (by first | omega | (dsimp only at *; omega) | assumption | decide | simp) (by first | omega | (dsimp only at *; omega) | assumption | decide | simp) (by first | omega | (dsimp only at *; omega) | assumption | decide | simp)).call [0] (by decide) (And.intro rfl trivial) (And.intro rfl trivial) ?_
                                      rintro _ _ ⟨u266, u267, rfl, rfl, g268, g269, g270⟩
                                      conv => whnf
                                      refine ⟨by simp; omega, ?_⟩
                                      conv => whnf
                                      (dsimp only at *; refine' ex4 (i + 1) ?c1 ⟨?c2, .of [some 0, some 4, some 2] (by rfl) ?c3⟩; (case c3 => ((conv => whnf); (repeat (first | exact trivial | (refine ⟨rfl, ?_⟩; (conv => whnf)) | (refine ⟨(w64 _ (by omega) (by omega)).trans (by simp), ?_⟩; (conv => whnf)))))); (case c1 => (exact ⟨(by omega), (by first | exact h3 | exact h3.app (sle_evN _ _ _ _ _) | exact h3.app (e := ⟨_, _, _, _, _, _⟩) (.refl _)), (by simp only [List.length_append, List.length_cons, List.length_nil]; omega), (by simp only [List.length_append, List.length_cons, List.length_nil]; omega), (by dsimp only; omega), (by dsimp only; omega)⟩));  (case c2 => (show n - (i + 1) < n - i; omega)))
                                    · simp only [decide_eq_true_eq, decide_eq_false_iff_not] at hh265
                                      conv => whnf
                                      refine ⟨fun hh277 => ?_, fun hh277 => ?_⟩
                                      · simp only [decide_eq_true_eq, decide_eq_false_iff_not] at hh277
                                        conv => whnf
                                        refine (garr_s _ _ _ _ (by first | omega | (dsimp only at *; omega) | assumption | decide | simp) (by first | omega | (dsimp only at *; omega) | assumption | decide | simp) (by first | omega | (dsimp only at *; omega) | assumption | decide | simp)).call [0] (by decide) (And.intro rfl trivial) (And.intro rfl trivial) ?_
                                        rintro _ _ ⟨u278, u279, rfl, rfl, g280, g281, g282⟩
                                        conv => whnf
                                        refine ⟨by simp; omega, ?_⟩
                                        conv => whnf
                                        (dsimp only at *; refine' ex4 (i + 1) ?c1 ⟨?c2, .of [some 0, some 4, some 2] (by rfl) ?c3⟩; (case c3 => ((conv => whnf); (repeat (first | exact trivial | (refine ⟨rfl, ?_⟩; (conv => whnf)) | (refine ⟨(w64 _ (by omega) (by omega)).trans (by simp), ?_⟩; (conv => whnf)))))); (case c1 => (exact ⟨(by omega), (by first | exact h3 | exact h3.app (sle_evN _ _ _ _ _) | exact h3.app (e := ⟨_, _, _, _, _, _⟩) (.refl _)), (by simp only [List.length_append, List.length_cons, List.length_nil]; omega), (by simp only [List.length_append, List.length_cons, List.length_nil]; omega), (by dsimp only; omega), (by dsimp only; omega)⟩));  (case c2 => (show n - (i + 1) < n - i; omega)))
                                      · simp only [decide_eq_true_eq, decide_eq_false_iff_not] at hh277
                                        conv => whnf
                                        refine (gflags_s _ _ _ (by first | omega | (dsimp only at *; omega) | assumption | decide | simp) (by first | omega | (dsimp only at *; omega) | assumption | decide | simp) (by first | omega | (dsimp only at *; omega) | assumption | decide | simp)).call [0] (by decide) (And.intro rfl trivial) (And.intro rfl trivial) ?_
                                        rintro _ _ ⟨u289, rfl, rfl, g290⟩
                                        conv => whnf
                                        refine ⟨by simp; omega, ?_⟩
                                        conv => whnf
                                        (dsimp only at *; refine' ex4 (i + 1) ?c1 ⟨?c2, .of [some 0, some 4, some 2] (by rfl) ?c3⟩; (case c3 => ((conv => whnf); (repeat (first | exact trivial | (refine ⟨rfl, ?_⟩; (conv => whnf)) | (refine ⟨(w64 _ (by omega) (by omega)).trans (by simp), ?_⟩; (conv => whnf)))))); (case c1 => (exact ⟨(by omega), (by first | exact h3 | exact h3.app (sle_evN _ _ _ _ _) | exact h3.app (e := ⟨_, _, _, _, _, _⟩) (.refl _)), (by simp only [List.length_append, List.length_cons, List.length_nil]; omega), (by simp only [List.length_append, List.length_cons, List.length_nil]; omega), (by dsimp only; omega), (by dsimp only; omega)⟩));  (case c2 => (show n - (i + 1) < n - i; omega)))
    · have hb : i = n := by simp only [decide_eq_false_iff_not] at hb; omega
      conv => whnf
      refine .same ?_
      conv => whnf
      dsimp only at *
      refine OutG.of [some 0, some 1] (.sl 1) [chs ls b, .row 74 6 es] (by rfl) ⟨es, l, b, rfl, rfl, h3, by omega, h4, h6, by omega⟩ ?_
      conv => whnf
      repeat (first | exact trivial | (refine ⟨rfl, ?_⟩; (conv => whnf)))
end Go.Proofs.Ytdommpfnoiemkaa

/- Chapter 27: drawn events told by their list, the valid ones among them, drawn scripts. -/
namespace Go.Proofs.Ytdommpfnoiemkaa
open Go.Sx
set_option linter.unusedSimpArgs false
set_option linter.unusedVariables false
theorem filt_take {l : List Ev} {i : Nat} (h : i < l.length) : (l.take (i + 1)).filter evOk = (l.take i).filter evOk ++ (if evOk (l.getD i ev0) = true then [l.getD i ev0] else []) := by
  rw [List.take_add_one, List.filter_append, List.getElem?_eq_getElem h]
  simp [List.getD, List.getElem?_eq_getElem h, List.filter_cons]
theorem BLe.row {T : TypeId} {z : Nat} {es es' : List (List SV)} (hl : es.length = es'.length) (h : ∀ (i : Nat) (e e' : List SV), es[i]? = some e → es'[i]? = some e' → SLeL e e') : BLe (.row T z es) (.row T z es') := fun w E σ e hb => by
  cases e <;> simp only [BlkOK] at hb ⊢
  case row g sz' n cap =>
    obtain ⟨h1, h2, h3, h4, vs, h5, h6, h7⟩ := hb
    refine ⟨h1, by omega, h3, h4, vs, h5, h6, fun i e he => ?_⟩
    have hi : i < es.length := by rw [hl]; exact (List.getElem?_eq_some_iff.1 he).1
    have hle := h i _ e (List.getElem?_eq_getElem hi) he
    obtain ⟨a, b⟩ := h7 i _ (List.getElem?_eq_getElem hi)
    refine ⟨by rw [← hle.1]; exact a, fun j s hs => ?_⟩
    have hj : j < (es[i]).length := by rw [hle.1]; exact (List.getElem?_eq_some_iff.1 hs).1
    obtain ⟨v, c, d, o⟩ := b j _ (List.getElem?_eq_getElem hj)
    exact ⟨v, c, hle.2 j _ s (List.getElem?_eq_getElem hj) hs _ _ _ _ d, o⟩
  case rownil =>
    subst hb
    exact List.eq_nil_of_length_eq_zero (by rw [← hl]; rfl)
theorem HLe.cons {b b' : Blk} {h h' : Hp} (hb : BLe b b') (hh : HLe h h') : HLe (b :: h) (b' :: h') := ⟨by simp [hh.1], fun i a a' ha ha' => by
  cases i with
  | zero => simp at ha ha'; subst ha; subst ha'; exact hb
  | succ i => exact hh.2 i a a' (by simpa using ha) (by simpa using ha')⟩
theorem HLe.nil : HLe [] [] := ⟨rfl, by simp⟩
theorem _root_.Go.Sx.GSpec.weak {P : Program} {f : FuncId} {args : List SV} {hin : Hp} {R R' : SV → Hp → Prop} (hs : GSpec P f args hin R)
    (hw : ∀ s ho, R s ho → ∃ s' ho', R' s' ho' ∧ SLe s s' ∧ HLe ho ho') : GSpec P f args hin R' :=
  ⟨⟨fun w X σ vs hI hr => (hs.ok.ok w X σ vs hI hr).mono fun v w' ⟨s, ho, σ', hR, hrep, hI', hS⟩ => by
    obtain ⟨s', ho', hR', hle, hhl⟩ := hw s ho hR
    exact ⟨s', ho', σ', hR', hle _ _ _ _ hrep, hI'.weak hhl, hS⟩⟩⟩
theorem gevents_w (ls : List Int) (a : Int) (n : Nat) (hn : n ≤ 100) (h0 : 0 ≤ a) (h1 : a < 9223372036854700000) :
    GSpec Try.prog 49 [.ptr 0 0, .int .i64 (n : Int)] [chs ls a] fun v ho => ∃ (l : List Ev) (a' : Int), v = .sl 1 ∧ ho = [chs ls a', .row 74 6 (l.map evE)] ∧ l.length ≤ 11 + n ∧ 1 ≤ l.length ∧ a ≤ a' ∧ a' ≤ a + 30 + 20 * n :=
  (gevents_s ls a n hn h0 h1).weak fun s ho ⟨es, l, a', e1, e2, hr, b1, b2, b3, b4⟩ => ⟨_, _, ⟨l, a', rfl, rfl, b1, b2, b3, b4⟩, by rw [e1]; exact .refl _, by
    rw [e2]
    exact .cons (.refl _) (.cons (BLe.row (by rw [hr.1, List.length_map]) fun i e e' h1 h2 => by
      rw [List.getElem?_map, Option.map_eq_some_iff] at h2
      obtain ⟨x, h2, rfl⟩ := h2
      exact hr.2 i e x h1 h2) .nil)⟩
set_option maxRecDepth 100000 in
set_option maxHeartbeats 8000000 in
theorem gvalid_g (ls : List Int) (a : Int) (l : List Ev) (hl : l.length ≤ 1000) :
    GSpec Try.prog 93 [.ptr 0 0, .sl 1] [chs ls a, .row 74 6 (l.map evE)] fun s ho => s = .sl 2 ∧ ho = [chs ls a, .row 74 6 (l.map evE), .row 74 6 ((l.filter evOk).map evE)] := by
  refine .of_code tab_ok Try.func93 (by rfl) rfl ?_
  have hm : (l.map evE).length = l.length := List.length_map ..
  conv => whnf
  refine LoopG.inv tab_ok 26 (fun i : { i : Nat // i ≤ l.length } => [(1, .sl 1), (5, .sl 2), (6, .int .i64 (i.1 : Int))])
    (fun i => [chs ls a, .row 74 6 (l.map evE), .row 74 6 (((l.take i.1).filter evOk).map evE)]) (fun i => l.length - i.1) ⟨0, by omega⟩ (.of [some 0, some 1, none] (by rfl) ?_) ?_
  · conv => whnf
    refine ⟨by rfl, ?_⟩
    conv => whnf
    refine ⟨by rfl, ?_⟩
    conv => whnf
    refine ⟨by rfl, ?_⟩
    conv => whnf
    refine ⟨by rfl, ?_⟩
    conv => whnf
    refine ⟨by rfl, ?_⟩
    conv => whnf
    exact trivial
  · intro i
    have hi := i.2
    have hf : (List.filter evOk (List.take i.1 l)).length ≤ l.length := Nat.le_trans (List.length_filter_le _ _) (by rw [List.length_take]; omega)
    conv => whnf
    refine ⟨fun hb => ?_, fun hb => ?_⟩
    · have hb : i.1 < l.length := by simp only [decide_eq_true_eq, hm] at hb; omega
      have hg := ev_get hb
      have ht := filt_take hb
      obtain ⟨e, he⟩ : ∃ e, e = l.getD i.1 ev0 := ⟨_, rfl⟩
      rw [← he] at hg ht
      conv => whnf
      refine ⟨by omega, ?_⟩
      conv => whnf
      (refine ⟨_, hg, ?_⟩)
      conv => whnf
      refine (revv_s _).call ?_
      rintro _ rfl
      conv => whnf
      refine ⟨fun hh11 => ?_, fun hh11 => ?_⟩
      · skip
        conv => whnf
        refine ⟨by omega, ?_⟩
        conv => whnf
        (refine ⟨_, hg, ?_⟩)
        conv => whnf
        refine ⟨by simp; omega, ?_⟩
        conv => whnf
        (refine ⟨⟨i.1 + 1, by omega⟩, (by show l.length - (i.1 + 1) < l.length - i.1; omega), .of [some 0, some 1, some 4] (by rfl) ?_⟩; (conv => whnf); (repeat (first | exact trivial | (refine ⟨rfl, ?_⟩; (conv => whnf)) | (refine ⟨(w64 _ (by omega) (by omega)).trans (by simp), ?_⟩; (conv => whnf)) | (refine ⟨(by rw [ht, if_pos ‹evOk e = true›, List.map_append]; rfl), ?_⟩; (conv => whnf)) | (refine ⟨(by rw [ht, if_neg (by rw [‹evOk e = false›]; decide), List.append_nil]), ?_⟩; (conv => whnf)))); done)
      · skip
        conv => whnf
        (refine ⟨⟨i.1 + 1, by omega⟩, (by show l.length - (i.1 + 1) < l.length - i.1; omega), .of [some 0, some 1, some 2] (by rfl) ?_⟩; (conv => whnf); (repeat (first | exact trivial | (refine ⟨rfl, ?_⟩; (conv => whnf)) | (refine ⟨(w64 _ (by omega) (by omega)).trans (by simp), ?_⟩; (conv => whnf)) | (refine ⟨(by rw [ht, if_pos ‹evOk e = true›, List.map_append]; rfl), ?_⟩; (conv => whnf)) | (refine ⟨(by rw [ht, if_neg (by rw [‹evOk e = false›]; decide), List.append_nil]), ?_⟩; (conv => whnf)))); done)
    · have hb : i.1 = l.length := by simp only [decide_eq_false_iff_not, hm] at hb; omega
      have hx : (l.take i.1).filter evOk = l.filter evOk := by rw [hb, List.take_length]
      rw [hx]
      conv => whnf
      refine .same ?_
      conv => whnf
      (refine OutG.of [some 0, some 1, some 2] (.sl 2) _ (by rfl) ⟨rfl, rfl⟩ ?_; (conv => whnf); (repeat (first | exact trivial | (refine ⟨rfl, ?_⟩; (conv => whnf)))))
end Go.Proofs.Ytdommpfnoiemkaa

/- Chapter 27: drawn scripts. -/
namespace Go.Proofs.Ytdommpfnoiemkaa
open Go.Sx
set_option linter.unusedSimpArgs false
set_option linter.unusedVariables false
theorem evB_325 {e : Ev} (h : evOk e = true) : (evB e).length ≤ 325 := by
  have h : evP e := of_decide_eq_true h
  unfold evP at h
  have l1 := encN_len9 e.k.toNat (by omega)
  have l2 := encN_len9 e.a.toNat (by omega)
  have l3 := encN_len9 e.b.toNat (by omega)
  have l4 := encN_len9 e.c.toNat (by omega)
  have l5 := encN_len9 e.s.length (by omega)
  have l6 := encN_len9 e.fl.length (by omega)
  unfold evB
  simp only [List.length_append, List.length_map]
  omega
theorem scrD_small {c : Cf} {l : List Ev} (hc : cfOk c = true) (he : evsOk l = true) (hl : l.length ≤ 100) : (scrD c l).length ≤ 40000 := by
  obtain ⟨h0, h1⟩ := cfOk_of hc
  have hr : c.rs.length ≤ 12 := h0.2.2.2.2.2.2.2.2.2.2.2.2.2.2.2.2
  have a := numsB_len h0 14
  rw [show (fldL c).take 14 = fldL c from rfl] at a
  have b := rtsB_len h1 c.rs.length
  rw [List.take_length] at b
  have d := flat_len (f := evB) (l := l) (k := 325) (fun x hx => evB_325 (List.all_eq_true.1 he x hx))
  have e := encN_len9 c.rs.length (by omega)
  have f := encN_len9 l.length (by omega)
  unfold scrD scrB
  have g : (evsB l).length ≤ 325 * l.length := d
  have k : (twoB (ckV ([65, 83, 1] ++ numsB (fldL c) ++ encN c.rs.length ++ rtsB c.rs ++ encN l.length ++ evsB l))).length = 2 := rfl
  simp only [List.length_append, List.length_cons, List.length_nil] at k ⊢
  omega
theorem scrD_5 (c : Cf) (l : List Ev) : 5 ≤ (scrD c l).length := by
  have h := scrB_len c l
  unfold scrD
  have k : (twoB (ckV (scrB c l))).length = 2 := rfl
  rw [List.length_append]; omega
theorem evsOk_filt (l : List Ev) : evsOk (l.filter evOk) = true := by
  unfold evsOk
  rw [List.all_eq_true]
  intro x hx
  exact (List.mem_filter.1 hx).2
theorem filt_le (l : List Ev) : (l.filter evOk).length ≤ l.length := List.length_filter_le _ _
theorem rencodeO_s {c : Cf} {l : List Ev} (hc : cfOk c = true) (he : evsOk l = true) (hl : l.length ≤ 100) : PSpec Try.prog 92 [cfE c, .rs 6 (l.map evE)] (· = .tup [.str (scrD c l), .int .i64 0]) := by
  obtain ⟨h0, h1⟩ := cfOk_of hc
  have hr : c.rs.length ≤ 12 := h0.2.2.2.2.2.2.2.2.2.2.2.2.2.2.2.2
  have h := rencode_s c l (by omega) (by omega)
  rw [encR_o hc he (by omega) (by have := scrD_small hc he hl; omega)] at h
  exact h
theorem encodeO_s {c : Cf} {l : List Ev} (hc : cfOk c = true) (he : evsOk l = true) (hl : l.length ≤ 100) : PSpec Try.prog 53 [cfE c, .rs 6 (l.map evE)] (· = .tup [.str (scrD c l), .int .i64 0]) := by
  obtain ⟨h0, h1⟩ := cfOk_of hc
  have hr : c.rs.length ≤ 12 := h0.2.2.2.2.2.2.2.2.2.2.2.2.2.2.2.2
  have h := encode_s c l (by omega) (by omega)
  rw [encR_o hc he (by omega) (by have := scrD_small hc he hl; omega)] at h
  exact h
theorem decodeO_s {c : Cf} {l : List Ev} (hc : cfOk c = true) (he : evsOk l = true) (hl : l.length ≤ 100) : PSpec Try.prog 54 [.str (scrD c l)] (· = .tup [cfE c, .rs 6 (l.map evE), .int .i64 0]) := by
  have b := scrD_small hc he hl
  have h := decode_s (scrD c l) (by omega)
  rw [decR_enc hc he (by omega) (by omega)] at h
  exact h
set_option maxRecDepth 100000 in
set_option maxHeartbeats 8000000 in
theorem gscript_s (ls : List Int) (a m : Int) (n : Nat) (hn : n ≤ 50) (h0 : 0 ≤ a) (h1 : a < 9223372036854600000) (m0 : 1 ≤ m) (m1 : m ≤ 3) :
    OSpec Try.prog 51 [.ptr 0 0, .int .i64 m, .int .i64 (n : Int)] [chs ls a] fun s ho => ∃ (c : Cf) (l : List Ev) (a' : Int), s = .str (scrD c l) ∧ ho = [chs ls a'] ∧ cfOk c = true ∧ evsOk l = true ∧ l.length ≤ 11 + n ∧ a ≤ a' ∧ a' ≤ a + 41 + 20 * n := by
  refine .of_code tab_ok Try.func51 (by rfl) rfl trivial ?_
  have hc := cfX_ok ls a m m0 m1
  have hA := cfA_rng ls a
  conv => whnf
  refine (gcfg_s ls a m h0 (by omega)).call [0] (by decide) (And.intro rfl trivial) (And.intro rfl trivial) ?_
  rintro _ _ ⟨rfl, rfl⟩
  conv => whnf
  refine (gevents_w ls (cfA ls a) n (by omega) (by omega) (by omega)).call [0, 1] (by rfl) (by repeat' (first | exact trivial | exact rfl | apply And.intro)) (by repeat' (first | exact trivial | exact rfl | apply And.intro)) ?_
  rintro _ _ ⟨l, a', rfl, rfl, k1, k2, k3, k4⟩
  conv => whnf
  refine (gvalid_g ls a' l (by omega)).call [0, 1, 2] (by rfl) (by repeat' (first | exact trivial | exact rfl | apply And.intro)) (by repeat' (first | exact trivial | exact rfl | apply And.intro)) ?_
  rintro _ _ ⟨rfl, rfl⟩
  conv => whnf
  have hlf := filt_le l
  refine (rencodeO_s hc (evsOk_filt l) (by omega)).lend (And.intro rfl (And.intro rfl trivial)) ?_
  rintro _ rfl
  conv => whnf
  (exact ⟨_, l.filter evOk, _, rfl, rfl, hc, evsOk_filt l, by omega, by omega, by omega⟩)
end Go.Proofs.Ytdommpfnoiemkaa
