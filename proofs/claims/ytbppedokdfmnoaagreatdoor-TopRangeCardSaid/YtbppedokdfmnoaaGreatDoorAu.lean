/- Part of the executor and its soundness, or of what it is told of this seat's program. No statement of the seat is proved here. -/
import Derived.Test.YtbppedokdfmnoaaGreatDoorMe
import Derived.Laws.Externs
import Derived.Shelf.Bits.Mul64
import Derived.Test.YtbppedokdfmnoaaGreatDoorRe
import Derived.Test.YtbppedokdfmnoaaGreatDoorSx4
import Derived.Test.YtbppedokdfmnoaaGreatDoorCh
set_option linter.unusedSimpArgs false
set_option linter.unusedVariables false
namespace Go.Proofs.YtbppedokdfmnoaaGreatDoor
open Go.Sx
theorem shr32 (a : Int) : a.fdiv (2 ^ min (Int.toNat 32) IntKind.u64.bits) = a / 4294967296 := by
 show a.fdiv 4294967296 = a / 4294967296
 exact Int.fdiv_eq_ediv_of_nonneg _ (by decide)
theorem and32 (a : Nat) (ha : a < 18446744073709551616) : IntKind.u64.wrap ((BitVec.ofInt IntKind.u64.bits (a : Int) &&& BitVec.ofInt IntKind.u64.bits 4294967295).toNat : Int) = ((a % 4294967296 : Nat) : Int) :=
 Mul64.maskN a ha
theorem mul64_n (x y : Nat) (hx : x < 18446744073709551616) (hy : y < 18446744073709551616) :
  PSpec Tryz.prog 324 [.int .u64 (x : Int), .int .u64 (y : Int)] (· = .tup [.int .u64 ((x * y / 18446744073709551616 : Nat) : Int), .int .u64 ((x * y % 18446744073709551616 : Nat) : Int)]) := by
 refine .of_code' tab_ok Tryz.func324 (by rfl) rfl trivial ?_
 conv => whnf
 repeat (refine ⟨by decide, ?_⟩; conv => whnf)
 obtain ⟨bd, bt, bw, hhi⟩ := Lib.mul64_hi x y hx hy
 have ba := Lib.half_mul_le (a := x / 4294967296) (b := y / 4294967296) (by omega) (by omega)
 have bb := Lib.half_mul_le (a := x / 4294967296) (b := y % 4294967296) (by omega) (by omega)
 have bc := Lib.half_mul_le (a := x % 4294967296) (b := y / 4294967296) (by omega) (by omega)
 have ba' : x / 4294967296 * (y / 4294967296) < 18446744073709551616 := by omega
 have bb' : x / 4294967296 * (y % 4294967296) < 18446744073709551616 := by omega
 have bc' : x % 4294967296 * (y / 4294967296) < 18446744073709551616 := by omega
 have bh1 : x / 4294967296 * (y / 4294967296) + (x / 4294967296 * (y % 4294967296) + x % 4294967296 * (y % 4294967296) / 4294967296) / 4294967296 < 18446744073709551616 := by omega
 have bh : x / 4294967296 * (y / 4294967296) + (x / 4294967296 * (y % 4294967296) + x % 4294967296 * (y % 4294967296) / 4294967296) / 4294967296 + ((x / 4294967296 * (y % 4294967296) + x % 4294967296 * (y % 4294967296) / 4294967296) % 4294967296 + x % 4294967296 * (y / 4294967296)) / 4294967296 < 18446744073709551616 := by
  rw [hhi]
  have h1 : x * y <= 18446744073709551615 * 18446744073709551615 := Nat.mul_le_mul (by omega) (by omega)
  omega
 simp only [and32 x hx, and32 y hy, shr32, Mul64.divN, Mul64.mulN, Mul64.addN, Mul64.wrapN _ bd, Mul64.wrapN _ bb', Mul64.wrapN _ bt, and32 _ bt, Mul64.wrapN _ bc', Mul64.wrapN _ bw, Mul64.wrapN _ ba', Mul64.wrapN _ bh1, Mul64.wrapN _ bh, Mul64.wrapM (x * y)]
 rw [hhi]
theorem mul64_s (x y : Int) (x0 : 0 <= x) (x1 : x < 18446744073709551616) (y0 : 0 <= y) (y1 : y < 18446744073709551616) :
  PSpec Tryz.prog 324 [.int .u64 x, .int .u64 y] (· = .tup [.int .u64 (x * y / 18446744073709551616), .int .u64 (x * y % 18446744073709551616)]) := by
 obtain ⟨a, rfl⟩ := Int.eq_ofNat_of_zero_le x0
 obtain ⟨b, rfl⟩ := Int.eq_ofNat_of_zero_le y0
 have := mul64_n a b (by omega) (by omega)
 rw [<- Int.natCast_mul]
 exact this
end Go.Proofs.YtbppedokdfmnoaaGreatDoor

namespace Go.Proofs.YtbppedokdfmnoaaGreatDoor
open Go.Sx
noncomputable def mulZ : PSp := fun l k => match l with
 | [.int .u64 a, .iv .u64 _ lo hi _ _] => bChk (eqI a 0) (bChk (Go.Sx.leI 0 lo) (bChk (Go.Sx.leI hi 18446744073709551615) (k (.tup [.int .u64 0, .int .u64 0]))))
 | [.iv .u64 _ lo hi _ _, .int .u64 a] => bChk (eqI a 0) (bChk (Go.Sx.leI 0 lo) (bChk (Go.Sx.leI hi 18446744073709551615) (k (.tup [.int .u64 0, .int .u64 0]))))
 | _ => False
noncomputable def pspecsA : List (FuncId × PSp) := (324, mulZ) :: pspecs
noncomputable def envA : Env := ⟨tab, ftab, mtab, pspecsA, hspecs, itab, true⟩
noncomputable def livPre : List Code := headsC 3 (bodyOf Tryz.f27)
noncomputable def livRest : Code := tailC 3 (bodyOf Tryz.f27)
noncomputable def livLoop : Code := ((loopsC (bodyOf Tryz.f27))[0]?).getD .skip
noncomputable def livR : Code := leftC (leftC livRest)
noncomputable def livEnd : Code := rightC livRest
theorem livRest_eq : livRest = .seq (.seq livR (.block 0 (.loop livLoop))) livEnd := by kernel_rfl
noncomputable def choPre : List Code := headsC 4 (bodyOf Tryz.f28)
noncomputable def choRest : Code := tailC 4 (bodyOf Tryz.f28)
noncomputable def choLoop : Code := ((loopsC (bodyOf Tryz.f28))[0]?).getD .skip
noncomputable def choR : Code := leftC (leftC choRest)
noncomputable def choEnd : Code := rightC choRest
theorem choRest_eq : choRest = .seq (.seq choR (.block 0 (.loop choLoop))) choEnd := by kernel_rfl
noncomputable def aF (m : Int) (d : Dr) : FW := ⟨⟨cfgV m d, .sl 0, .undef, .undef, .undef, .undef, .undef, .undef, .undef, .undef, .undef, .undef, .undef, .undef, .undef, .undef⟩, R16.rep .undef, R16.rep .undef, R16.rep .undef, R16.rep .undef, R16.rep .undef, R16.rep .undef, R16.rep .undef, R16.rep .undef, R16.rep .undef, R16.rep .undef, R16.rep .undef, R16.rep .undef, R16.rep .undef, R16.rep .undef, R16.rep .undef⟩
noncomputable def gZ (b : Blk) : HW := hwT 1 ⟨⟨b, .dead, .dead, .dead, .dead, .dead, .dead, .dead, .dead, .dead, .dead, .dead, .dead, .dead, .dead, .dead⟩, R16.rep .dead, R16.rep .dead, R16.rep .dead, R16.rep .dead, R16.rep .dead, R16.rep .dead, R16.rep .dead, R16.rep .dead, R16.rep .dead, R16.rep .dead, R16.rep .dead, R16.rep .dead, R16.rep .dead, R16.rep .dead, R16.rep .dead⟩
theorem gZ_view (b : Blk) : (gZ b).view = [b] := by kernel_rfl
noncomputable def gapN (N L : Int) (lg ps : List (List SV)) (p : List SV) : Blk := .gap 90 6 L 6 1486 lg [[.bs .i64 N 0 1 371, .int .i64 1, .int .i64 0, .bs .i64 N 2 3 373, .int .i64 0, .int .i64 4096], [.bs .i64 N 0 1 371, .int .i64 5, .int .i64 0, .int .i64 0, .int .i64 1, .int .i64 0], [.bs .i64 N 0 1 371, .int .i64 3, .int .i64 0, .bs .i64 N 1 2 372, .int .i64 0, .int .i64 1], [.bs .i64 N 0 1 371, .int .i64 4, .int .i64 0, .bs .i64 N 1 2 372, .int .i64 0, .int .i64 0]] (p :: ps)
end Go.Proofs.YtbppedokdfmnoaaGreatDoor

namespace Go.Sx
section
variable {P : Program}
theorem BOK.goesPost {h0 : Hp} {c : Code} {F : Fr} {h : Hp} {K K' : Post} (hs : BOK P h0 c F h K) (hk : ∀ x F' h', K x F' h' -> ∃ F'' h'', Goes h0 F' h' F'' h'' /\ K' x F'' h'') : BOK P h0 c F h K' := by
 intro w0 X σ0 w σ tmps h1 h2 h3 h4
 refine wp_mono (hs w0 X σ0 w σ tmps h1 h2 h3 h4) fun e a w' hq => ?_
 obtain ⟨hd, x, F', h', σ', hx, hk1, hI, hF, hS⟩ := hq
 obtain ⟨F'', h'', hg, hk2⟩ := hk x F' h' hk1
 obtain ⟨σ'', g1, g2, g3⟩ := hg w0 X σ0 w' σ' a.tmps h1 hS hI hF
 exact ⟨hd, x, F'', h'', σ'', hx, hk2, g2, g3, g1⟩
theorem start_fr {args : List SV} {n : Nat} {F0 : FW} (h : startW args n fun F => F = F0) : ∀ (w : World) (E : Nat -> Prop) (σ : Sg) (vs : List Value), RepL w E σ args vs -> FRep w E σ (viewF n F0) (vs.toArray ++ Array.replicate (n - vs.toArray.size) Go.undef) := by
 obtain ⟨F, hF, hfr⟩ := startW_sound h
 subst hF
 exact hfr
theorem OSpec.of_bok2 {f : FuncId} {fn : Func} {c : Code} (hf : P.funcs[f]? = some fn) (hn : (fn.name == "runtime.NumGoroutine") = false) (hb : fn.body = some c) {n : Nat} (hnt : fn.ntmps = n) {t t' : Nat} (hres : fn.results.toList = [.tmp t, .tmp t'])
  {args : List SV} {F0 : FW} {s s' : SV} {b : Blk} (hst : startW args n fun F => F = F0) (hfree : ∀ x ∈ [b], FreeBlk x) (hsf : FreeSV (.tup [s, s'])) {R : Fr} (hR : R[t]? = some s) (hR' : R[t']? = some s')
  (hB : BOK P [b] c (viewF n F0) [b] fun x F h => x = .ret /\ F = R /\ h = [b]) : OSpec P f args [b] fun s1 ho => s1 = .tup [s, s'] /\ ho = [b] where
 fin := hfree
 ok := fun w X σ vs hI hr => by
  subst hnt
  refine (done_of_bok2 (Q := fun h => h = [b]) (s := s) (s' := s') hf hn hb hres (start_fr hst) (hB.mono fun x F h e => ?_) hI hr).mono fun v w' ⟨h', σ', e, a1, a2, a3⟩ => ?_
  ·obtain ⟨e1, e2, e3⟩ := e
   subst e2
   exact ⟨.inl e1, hR, hR', e3⟩
  ·subst e
   exact ⟨_, _, σ', ⟨rfl, rfl⟩, rfl, hsf, hfree, hsf _ _ _ _ _ a1, a2, a3⟩
noncomputable def kmap (v : SV) (N : Int) (n : Nat) : List (SV × SV) := (List.range n).map fun (i : Nat) => (.bs .i64 N ((i : Int) + 1 - N) 1 1000000, v)
theorem kmap_succ (v : SV) (N : Int) (n : Nat) : kmap v N (n + 1) = kmap v N n ++ [(.bs .i64 N ((n : Int) + 1 - N) 1 1000000, v)] := by
 unfold kmap
 rw [List.range_succ, List.map_append]
 rfl
theorem EWs.map {α : Type} {f g : α -> SV × SV} {l : List α} (h : ∀ x ∈ l, SW (f x).1 (g x).1 /\ SW (f x).2 (g x).2) : EWs (l.map f) (l.map g) := by
 induction l with
 | nil => exact .nil
 | cons x l ih => exact .cons (h x (by simp)).1 (h x (by simp)).2 (ih fun y hy => h y (by simp [hy]))
theorem kmap_to (v : SV) (N N' : Int) (n : Nat) (hn : n <= 1000) : EWs (kmap v N n) (kmap v N' n) := EWs.map fun i hi => by
 have hi : i < n := by simpa using hi
 exact ⟨.bs (by omega) (by omega) (by omega), .refl⟩
theorem kmap_in {v : SV} {N : Int} {n : Nat} {c lo hi : Int} (hn : (n : Int) <= N) (hc : 1 <= c) (hlo : lo <= 1000000) (hhi : 1 <= hi) : notIn (.bs .i64 N c lo hi) (kmap v N n) := by
 intro e he
 simp only [kmap, List.mem_map, List.mem_range] at he
 obtain ⟨i, hi', rfl⟩ := he
 show bsV .eql (.bs .i64 N c lo hi) (.bs .i64 N ((i : Int) + 1 - N) 1 1000000) fun r => tfK r False True
 simp only [bsV, bsOp, bsCmp, bsL, bFork, bChk, ltI_eq, eqI_eq, kindB]
 have a1 : ¬ (1000000 < lo) := by omega
 have a2 : ¬ (hi < 1) := by omega
 have a3 : ¬ (c = (i : Int) + 1 - N) := by omega
 simp [a1, a2, a3, tfK]
theorem kmap_zero {v : SV} {N : Int} {n : Nat} : notIn (.int .i64 0) (kmap v N n) := by
 intro e he
 simp only [kmap, List.mem_map, List.mem_range] at he
 obtain ⟨i, hi', rfl⟩ := he
 show bsV .eql (.int .i64 0) (.bs .i64 N ((i : Int) + 1 - N) 1 1000000) fun r => tfK r False True
 simp only [bsV, bsOp, bsCmp, bsL, bFork, bChk, ltI_eq, eqI_eq, kindB]
 simp [tfK]
end
end Go.Sx
namespace Go.Proofs.YtbppedokdfmnoaaGreatDoor
open Go.Sx
theorem logR_add (a b k : Nat) : logR (a + b) k = logR a k ++ logR b (k + a) := by
 induction a generalizing k with
 | zero => simp [logR]
 | succ a ih =>
  rw [show a + 1 + b = (a + b) + 1 by omega]
  show recsN k ++ logR (a + b) (k + 1) = (recsN k ++ logR a (k + 1)) ++ logR b (k + (a + 1))
  rw [ih (k + 1), List.append_assoc, show k + 1 + a = k + (a + 1) by omega]
theorem logZ_at (k : Nat) (h1 : 1 <= k) (h2 : k <= 371) : ∃ p ps, logZ = logN (k - 1) ++ (recsN k ++ (p :: ps)) := by
 have e : logA = logN (k - 1) ++ (recsN k ++ logR (371 - k) (k + 1)) := by
  have e2 := logR_add (k - 1) (371 - k + 1) 1
  rw [show k - 1 + (371 - k + 1) = 371 by omega, show 1 + (k - 1) = k by omega] at e2
  unfold logA logN
  rw [e2, List.append_assoc]
  rfl
 unfold logZ
 rw [e, List.append_assoc, List.append_assoc]
 generalize hq : logR (371 - k) (k + 1) ++ [[SV.bs .i64 372 0 372 372, .int .i64 1, .int .i64 0, .bs .i64 372 2 374 374, .int .i64 0, .int .i64 4096]] = q
 cases q with
 | nil => simp at hq
 | cons p ps => exact ⟨p, ps, rfl⟩
theorem recs_to (k : Nat) (h1 : 1 <= k) (h2 : k <= 371) : RWs (recsN k) [[.bs .i64 (k : Int) 0 1 371, .int .i64 1, .int .i64 0, .bs .i64 (k : Int) 2 3 373, .int .i64 0, .int .i64 4096], [.bs .i64 (k : Int) 0 1 371, .int .i64 5, .int .i64 0, .int .i64 0, .int .i64 1, .int .i64 0], [.bs .i64 (k : Int) 0 1 371, .int .i64 3, .int .i64 0, .bs .i64 (k : Int) 1 2 372, .int .i64 0, .int .i64 1], [.bs .i64 (k : Int) 0 1 371, .int .i64 4, .int .i64 0, .bs .i64 (k : Int) 1 2 372, .int .i64 0, .int .i64 0]] := by
 have a : SW (.int .i64 (k : Int)) (.bs .i64 (k : Int) 0 1 371) := .intB (by omega) (by omega) (by omega)
 have b : SW (.int .i64 ((k + 1 : Nat) : Int)) (.bs .i64 (k : Int) 1 2 372) := .intB (by omega) (by omega) (by omega)
 have c : SW (.int .i64 ((k + 2 : Nat) : Int)) (.bs .i64 (k : Int) 2 3 373) := .intB (by omega) (by omega) (by omega)
 exact .cons (.cons a (.cons .refl (.cons .refl (.cons c .refl)))) (.cons (.cons a .refl) (.cons (.cons a (.cons .refl (.cons .refl (.cons b .refl)))) (.cons (.cons a (.cons .refl (.cons .refl (.cons b .refl)))) .nil)))
theorem recs_back (k : Nat) : RWs [[.bs .i64 (k : Int) 0 1 371, .int .i64 1, .int .i64 0, .bs .i64 (k : Int) 2 3 373, .int .i64 0, .int .i64 4096], [.bs .i64 (k : Int) 0 1 371, .int .i64 5, .int .i64 0, .int .i64 0, .int .i64 1, .int .i64 0], [.bs .i64 (k : Int) 0 1 371, .int .i64 3, .int .i64 0, .bs .i64 (k : Int) 1 2 372, .int .i64 0, .int .i64 1], [.bs .i64 (k : Int) 0 1 371, .int .i64 4, .int .i64 0, .bs .i64 (k : Int) 1 2 372, .int .i64 0, .int .i64 0]] (recsN k) := by
 have a : SW (.bs .i64 (k : Int) 0 1 371) (.int .i64 (k : Int)) := .bsI (by omega)
 have b : SW (.bs .i64 (k : Int) 1 2 372) (.int .i64 ((k + 1 : Nat) : Int)) := .bsI (by omega)
 have c : SW (.bs .i64 (k : Int) 2 3 373) (.int .i64 ((k + 2 : Nat) : Int)) := .bsI (by omega)
 exact .cons (.cons a (.cons .refl (.cons .refl (.cons c .refl)))) (.cons (.cons a .refl) (.cons (.cons a (.cons .refl (.cons .refl (.cons b .refl)))) (.cons (.cons a (.cons .refl (.cons .refl (.cons b .refl)))) .nil)))
noncomputable def rowZ : Blk := .row 90 6 logZ
theorem gap_two (k : Nat) (h1 : 1 <= k) (h2 : k <= 371) : ∃ lg ps p, ∀ N L : Int, N = k -> L = 4 * N + 2 -> BW rowZ (gapN N L lg ps p) /\ BW (gapN N L lg ps p) rowZ := by
 obtain ⟨p, ps, e⟩ := logZ_at k h1 h2
 refine ⟨logN (k - 1), ps, p, fun N L hN hL => ?_⟩
 subst hN
 unfold gapN rowZ
 refine ⟨BW.rowGap ?_ (by omega) (by omega) (by rw [logN_len]; omega), BW.gapRow ?_⟩
 ·rw [e]; exact RWs.append .refl (RWs.append (recs_to k h1 h2) .refl)
 ·rw [e]; exact RWs.append .refl (RWs.append (recs_back k) .refl)
noncomputable def gapE (N L : Int) (lg : List (List SV)) : Blk := .gap 90 6 L 1490 1490 lg [[.bs .i64 N 0 372 372, .int .i64 1, .int .i64 0, .bs .i64 N 2 374 374, .int .i64 0, .int .i64 4096]] []
theorem gapE_two : BW rowZ (gapE 372 1490 logA) /\ BW (gapE 372 1490 logA) rowZ := by
 unfold gapE rowZ logZ
 refine ⟨BW.rowGap ?_ (by omega) (by omega) (by rw [show logA.length = 4 * 371 + 6 from logN_len 371]; rfl), BW.gapRow ?_⟩
 ·exact RWs.append .refl (by rw [List.append_nil]; exact .refl)
 ·exact RWs.append .refl (by rw [List.append_nil]; exact .refl)
theorem row_free : ∀ b ∈ [rowZ], FreeBlk b := (freeBlksK_sound (l := [rowZ]) (k := True) trivial).2
theorem res_free : FreeSV (.tup [.int .i64 (-1), .int .i64 0]) := fun w E σ σ' v hr => by
 cases hr with
 | tup hl hc =>
  refine .tup hl fun i s v hs hv => ?_
  have := hc i s v hs hv
  match i with
  | 0 => simp at hs; subst hs; cases this; constructor
  | 1 => simp at hs; subst hs; cases this; constructor
  | i + 2 => simp at hs
theorem kmap_one (v : SV) : kmap v 1 1 = [(.bs .i64 1 0 1 1000000, v)] := rfl
theorem last_sound {P : Program} {V : Env} (hV : EnvOK P V) {fuel n : Nat} {loopc endc : Code} {F : FW} {H : HW} {b b' : Blk} {ss : List SV} {Q : Prop}
  (hq : codeV P V (runV P V fuel) 1 n loopc F H [] (fun x F H wr => x = .normal /\ codeV P V (runV P V fuel) 1 n loopc F H wr fun x F H wr => x = .exit 0 /\ codeV P V (runV P V fuel) 1 n endc F H wr fun x F H wr => x = .ret /\ tidyV n 1 (gZ b) [4, 5] F H wr fun s' H' => s' = ss /\ H' = gZ b) = Q) (h : Q) (hn : n <= 256)
  (hle : 1 <= H.view.length) (h0 : H.view[0]? = some b) (g1 : BW b' b) (g2 : BW b b') :
  BRounds P [b] loopc 2 (viewF n F) H.view fun x F h => x = .exit 0 /\ BOK P [b'] endc F h fun x F h => x = .ret /\ F = Go.Sx.mkFr n ([4, 5].zip ss) /\ h = [b'] := by
 rw [<- hq] at h
 obtain ⟨x, F1, H1, wr1, ⟨hx, h⟩, hc1, hM1⟩ := codeV_sound hV (runV_sound hV fuel) loopc hle h
 subst hx
 obtain ⟨x, F2, H2, wr2, ⟨hx, h⟩, hc2, hM2⟩ := codeV_sound hV (runV_sound hV fuel) loopc (by have := hM1.le; omega) h
 subst hx
 obtain ⟨x, F3, H3, wr3, ⟨hx, ht⟩, hc3, hM3⟩ := codeV_sound hV (runV_sound hV fuel) endc (by have := hM1.le; have := hM2.le; omega) h
 subst hx
 have hM : Moved 1 H.view [] H3.view wr3 := (hM1.trans hM2).trans hM3
 obtain ⟨s', H4, ⟨e1, e2⟩, _, hg⟩ := tidy_sound hn (by rw [gZ_view]; rfl) ht hM (fun i hi => by
  have : i = 0 := by omega
  subst this
  rw [h0, gZ_view]; rfl)
 subst e1; subst e2
 rw [gZ_view] at hg
 refine BRounds.step ((BOK.of (Nat.le_refl 1) hc1).mono fun y F' h' e => ?_)
 obtain ⟨e1, e2, e3⟩ := e
 subst e1; subst e2; subst e3
 refine BRounds.step ((BOK.of (Nat.le_refl 1) hc2).mono fun y F' h' e => ?_)
 obtain ⟨e1, e2, e3⟩ := e
 subst e1; subst e2; subst e3
 refine ⟨rfl, BOK.base (HWk.cons g1 .nil) (BOK.goesPost (BOK.of (Nat.le_refl 1) hc3) fun y F' h' e => ?_)⟩
 obtain ⟨e1, e2, e3⟩ := e
 subst e1; subst e2; subst e3
 exact ⟨_, _, hg.trans (Goes.weak SWs.refl (HWk.cons g2 .nil)), rfl, rfl, rfl⟩
end Go.Proofs.YtbppedokdfmnoaaGreatDoor
