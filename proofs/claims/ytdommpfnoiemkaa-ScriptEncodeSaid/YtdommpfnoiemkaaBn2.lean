/- Lemmas and contracts, part 2 of 4. No statement of the seat is proved here. -/
import Derived.Test.YtdommpfnoiemkaaBn1
/- Chapter 27: numbers read. -/
namespace Go.Proofs.Ytdommpfnoiemkaa
open Go.Sx
set_option linter.unusedSimpArgs false
set_option linter.unusedVariables false
abbrev rdB (s : List UInt8) (b : Bool) : Blk := .fix 149 [.str s, .bool b]
def tkG (s : List UInt8) (b : Bool) (n : Int) : Bool := b || decide ((s.length : Int) < n)
def tkV (s : List UInt8) (b : Bool) (n : Int) : List UInt8 := if tkG s b n = true then [] else s.take n.toNat
def tkS (s : List UInt8) (b : Bool) (n : Int) : List UInt8 := if tkG s b n = true then s else s.drop n.toNat
theorem toB1 {P : Program} {f : FuncId} {args : List SV} {hin : Hp} {T : TypeId} {V : SV} {pre : List SV} {b : Bool}
    (hs : OSpec P f args hin fun v ho => v = V ∧ ∃ c, ho = [.fix T (pre ++ [c])] ∧ BoolIs b c) : OSpec P f args hin fun v ho => v = V ∧ ho = [.fix T (pre ++ [.bool b])] :=
  (OSpec.toB (ι := Unit) (p := fun _ => True) (V := fun _ => V) (pre := fun _ => pre) (b := fun _ => b) (hs.mono fun s h hr => ⟨(), trivial, hr⟩)).mono fun s h ⟨_, _, hr⟩ => hr
theorem take_s (s : List UInt8) (b : Bool) (n : Int) (h0 : 0 ≤ n) (hs : s.length ≤ 100000000) :
    OSpec Try.prog 119 [.ptr 0 0, .int .i64 n] [rdB s b] fun v ho => v = .str (tkV s b n) ∧ ho = [rdB (tkS s b n) (tkG s b n)] := by
  refine toB1 (pre := [.str (tkS s b n)]) ?_
  refine .of_code tab_ok Try.func119 (by rfl) rfl trivial ?_
  have gt : b = true → tkV s b n = [] ∧ tkS s b n = s ∧ tkG s b n = true := fun h => by simp [tkV, tkS, tkG, h]
  have gf : b = false → (s.length : Int) < n → tkV s b n = [] ∧ tkS s b n = s ∧ tkG s b n = true := fun h h2 => by simp [tkV, tkS, tkG, h, h2]
  have gn : b = false → ¬ (s.length : Int) < n → tkV s b n = s.take n.toNat ∧ tkS s b n = s.drop n.toNat ∧ tkG s b n = false := fun h h2 => by
    have h3 : decide ((s.length : Int) < n) = false := decide_eq_false h2
    simp [tkV, tkS, tkG, h, h3]
  conv => whnf
  refine ⟨fun hh0 => ?_, fun hh0 => ?_⟩
  · skip
    conv => whnf
    refine ⟨by (exact congrArg SV.str (gt ‹_›).1.symm), ?_⟩
    conv => whnf
    (rw [(gt ‹_›).2.1, (gt ‹_›).2.2]; exact ⟨_, rfl, .inr (.inl ⟨rfl, rfl⟩)⟩)
  · skip
    conv => whnf
    refine ⟨fun hh2 => ?_, fun hh2 => ?_⟩
    · simp only [decide_eq_true_eq, decide_eq_false_iff_not] at hh2
      conv => whnf
      refine ⟨by (exact congrArg SV.str (gf ‹_› (by omega)).1.symm), ?_⟩
      conv => whnf
      (rw [(gf ‹_› (by omega)).2.1, (gf ‹_› (by omega)).2.2]; exact ⟨_, rfl, .inr (.inl ⟨rfl, rfl⟩)⟩)
    · simp only [decide_eq_true_eq, decide_eq_false_iff_not] at hh2
      conv => whnf
      refine ⟨by omega, ?_⟩
      conv => whnf
      refine ⟨by omega, ?_⟩
      conv => whnf
      refine ⟨by (exact congrArg SV.str (gn ‹_› (by omega)).1.symm), ?_⟩
      conv => whnf
      (rw [(gn ‹_› (by omega)).2.1, (gn ‹_› (by omega)).2.2, Int.toNat_natCast, List.take_length]; exact ⟨_, rfl, .inl (congrArg SV.bool ‹_›)⟩)
theorem takeT_s (s : List UInt8) (n : Int) (h0 : 0 ≤ n) (hs : s.length ≤ 100000000) :
    OSpec Try.prog 119 [.ptr 0 0, .int .i64 n] [rdB s true] fun v ho => v = .str [] ∧ ho = [rdB s true] := take_s s true n h0 hs
theorem takeN_s : OSpec Try.prog 119 [.ptr 0 0, .int .i64 1] [rdB [] false] fun v ho => v = .str [] ∧ ho = [rdB [] true] := take_s [] false 1 (by omega) (by simp)
theorem takeC_s (x : UInt8) (s : List UInt8) (hs : s.length ≤ 10000000) : OSpec Try.prog 119 [.ptr 0 0, .int .i64 1] [rdB (x :: s) false] fun v ho => v = .str [x] ∧ ho = [rdB s false] := by
  have e : tkG (x :: s) false 1 = false := by
    show (false || decide _) = false
    rw [decide_eq_false (by simp only [List.length_cons]; omega)]; rfl
  have h := take_s (x :: s) false 1 (by omega) (by simp; omega)
  rw [show tkV (x :: s) false 1 = [x] from by unfold tkV; rw [e]; rfl, show tkS (x :: s) false 1 = s from by unfold tkS; rw [e]; rfl, e] at h
  exact h
def rNk : Nat → Nat → List UInt8 → Nat × List UInt8 × Bool
  | _, _, [] => (0, [], true)
  | k, v, x :: r => if 8 < k ∨ 0 < k ∧ x.toNat = 0 then (0, r, true) else if x.toNat < 128 then (if 4611686018427387904 < v + x.toNat * 128 ^ k then (0, r, true) else (v + x.toNat * 128 ^ k, r, false)) else rNk (k + 1) (v + (x.toNat - 128) * 128 ^ k) r
def rN (s : List UInt8) (b : Bool) : Nat × List UInt8 × Bool := if b = true then (0, s, true) else rNk 0 0 s
theorem rNk_le : ∀ (s : List UInt8) (k v : Nat), (rNk k v s).1 ≤ 4611686018427387904 ∧ (rNk k v s).2.1.length ≤ s.length := by
  intro s
  induction s with
  | nil => intro k v; simp [rNk]
  | cons x r ih =>
    intro k v
    simp only [rNk]
    split
    · simp
    · split
      · split
        · simp
        · rename_i h; simp only [List.length_cons]; omega
      · have := ih (k + 1) (v + (x.toNat - 128) * 128 ^ k); simp only [List.length_cons]; omega
theorem rN_le (s : List UInt8) (b : Bool) : (rN s b).1 ≤ 4611686018427387904 ∧ (rN s b).2.1.length ≤ s.length := by
  unfold rN; split
  · simp
  · exact rNk_le s 0 0
theorem and127 (x : Nat) (h : x < 256) : IntKind.u8.wrap ((BitVec.ofInt IntKind.u8.bits (x : Int) &&& BitVec.ofInt IntKind.u8.bits 127).toNat : Int) = ((x % 128 : Nat) : Int) := by
  rw [BitVec.toNat_and, bv8 x h, show (BitVec.ofInt IntKind.u8.bits 127).toNat = 127 from bv8 127 (by omega), show (127 : Nat) = 2 ^ 7 - 1 from rfl, Nat.and_two_pow_sub_one_eq_mod, IntKind.wrap_u8]
  omega
theorem p128 : ∀ k : Nat, k ≤ 8 → 128 ^ k ≤ 72057594037927936 ∧ 1 ≤ 128 ^ k := by decide
theorem bvu (x : Nat) (h : x < 18446744073709551616) : (BitVec.ofInt IntKind.u64.bits (x : Int)).toNat = x := by
  rw [BitVec.toNat_ofInt]
  show ((x : Int) % 18446744073709551616).toNat = x
  omega
theorem acc_b (v k x : Nat) (hk : k ≤ 8) (hv : v < 128 ^ k) (hx : x < 256) :
    IntKind.u64.wrap ((BitVec.ofInt IntKind.u64.bits (v : Int) ||| BitVec.ofInt IntKind.u64.bits (IntKind.u64.wrap (IntKind.u64.wrap (IntKind.u8.wrap ((BitVec.ofInt IntKind.u8.bits (x : Int) &&& BitVec.ofInt IntKind.u8.bits 127).toNat : Int)) * 2 ^ min (((7 * k : Nat) : Int)).toNat IntKind.u64.bits))).toNat : Int) = ((v + (x % 128) * 128 ^ k : Nat) : Int) := by
  obtain ⟨p1, p2⟩ := p128 k hk
  have hb : (x % 128) * 128 ^ k ≤ 127 * 72057594037927936 := Nat.mul_le_mul (by omega) p1
  have e2 : (128 : Nat) ^ k = 2 ^ (7 * k) := by rw [Nat.pow_mul]
  have e1 : (2 : Int) ^ min (((7 * k : Nat) : Int)).toNat IntKind.u64.bits = ((128 ^ k : Nat) : Int) := by
    rw [Int.toNat_natCast, show min (7 * k) IntKind.u64.bits = 7 * k from Nat.min_eq_left (by show 7 * k ≤ 64; omega), e2]
    push_cast; rfl
  rw [and127 x hx, wu (x % 128) (by omega), e1, show ((x % 128 : Nat) : Int) * ((128 ^ k : Nat) : Int) = ((x % 128 * 128 ^ k : Nat) : Int) from by push_cast; rfl, wu (x % 128 * 128 ^ k) (by omega), BitVec.toNat_or, bvu v (by omega), bvu _ (by omega), Nat.or_comm, e2, ← Nat.shiftLeft_eq, ← Nat.shiftLeft_add_eq_or_of_lt (by rw [← e2]; exact hv), Nat.shiftLeft_eq, ← e2, Nat.add_comm, wu _ (by omega)]
theorem rb1 {k v : Nat} {x : UInt8} {r : List UInt8} (h : 8 < k ∨ 0 < k ∧ x.toNat = 0) : rNk k v (x :: r) = (0, r, true) := by rw [rNk, if_pos h]
theorem rb2 {k v : Nat} {x : UInt8} {r : List UInt8} (h : ¬ (8 < k ∨ 0 < k ∧ x.toNat = 0)) (h2 : x.toNat < 128) (h3 : 4611686018427387904 < v + x.toNat * 128 ^ k) : rNk k v (x :: r) = (0, r, true) := by rw [rNk, if_neg h, if_pos h2, if_pos h3]
theorem rb3 {k v : Nat} {x : UInt8} {r : List UInt8} (h : ¬ (8 < k ∨ 0 < k ∧ x.toNat = 0)) (h2 : x.toNat < 128) (h3 : ¬ 4611686018427387904 < v + x.toNat * 128 ^ k) : rNk k v (x :: r) = (v + x.toNat * 128 ^ k, r, false) := by rw [rNk, if_neg h, if_pos h2, if_neg h3]
theorem rb4 {k v : Nat} {x : UInt8} {r : List UInt8} (h : ¬ (8 < k ∨ 0 < k ∧ x.toNat = 0)) (h2 : ¬ x.toNat < 128) : rNk k v (x :: r) = rNk (k + 1) (v + (x.toNat - 128) * 128 ^ k) r := by rw [rNk, if_neg h, if_neg h2]
theorem nxt_v {v k x : Nat} (hv : v < 128 ^ k) (hx : x ≤ 127) : v + x * 128 ^ k < 128 ^ (k + 1) := by
  have := Nat.mul_le_mul_right (128 ^ k) hx
  rw [Nat.pow_succ]; omega
set_option maxHeartbeats 8000000 in
theorem rnum_s (s : List UInt8) (b : Bool) (hs : s.length ≤ 1000000) :
    OSpec Try.prog 114 [.ptr 0 0] [rdB s b] fun v ho => v = .int .i64 ((rN s b).1 : Int) ∧ ho = [rdB (rN s b).2.1 (rN s b).2.2] := by
  refine toB1 (pre := [.str (rN s b).2.1]) ?_
  refine .of_code tab_ok Try.func114 (by rfl) rfl trivial ?_
  cases b with
  | true =>
    have e : rN s true = (0, s, true) := rfl
    rw [e]
    conv => whnf
    refine LoopG.unr tab_ok 1 ?_
    conv => whnf
    refine (takeT_s _ _ (by first | omega | assumption | decide | simp) (by first | omega | assumption | decide | simp)).call [0] (by decide) (And.intro rfl trivial) (And.intro rfl trivial) ?_
    rintro _ _ ⟨rfl, rfl⟩
    conv => whnf
    refine both_t rfl ?_
    conv => whnf
    refine ⟨by rfl, ?_⟩
    conv => whnf
    (exact ⟨_, rfl, .inr (.inl ⟨rfl, rfl⟩)⟩)
  | false =>
    have e : rN s false = rNk 0 0 s := rfl
    obtain ⟨Q, hQ⟩ : ∃ Q, rNk 0 0 s = Q := ⟨_, rfl⟩
    rw [e, hQ]
    conv => whnf
    refine LoopG.inv tab_ok 48 (fun x : { x : Nat × Nat × List UInt8 // x.1 ≤ 9 ∧ x.2.1 < 128 ^ x.1 ∧ x.2.2.length ≤ s.length ∧ Q = rNk x.1 x.2.1 x.2.2 } => [(0, .ptr 0 0), (3, .int .u64 (x.1.2.1 : Int)), (4, .int .i64 (7 * x.1.1 : Nat))])
      (fun x => [rdB x.1.2.2 false]) (fun x => 10 - x.1.1) ⟨(0, 0, s), by simp [hQ]⟩ (.of [some 0] (by rfl) ?_) ?_
    · conv => whnf
      refine ⟨by rfl, ?_⟩
      conv => whnf
      refine ⟨by rfl, ?_⟩
      conv => whnf
      refine ⟨by rfl, ?_⟩
      conv => whnf
      refine ⟨by rfl, ?_⟩
      conv => whnf
      exact trivial
    · intro x
      obtain ⟨⟨k, v, r⟩, hk, hv, hl, hx⟩ := x
      subst hx
      have hl : r.length ≤ s.length := hl
      cases r with
      | nil => conv => whnf
               refine (takeN_s).call [0] (by decide) (And.intro rfl trivial) (And.intro rfl trivial) ?_
               rintro _ _ ⟨rfl, rfl⟩
               conv => whnf
               refine both_t rfl ?_
               conv => whnf
               refine .same ?_
               conv => whnf
               refine ⟨by rfl, ?_⟩
               conv => whnf
               (exact ⟨_, rfl, .inr (.inl ⟨rfl, rfl⟩)⟩)
      | cons c r =>
        have hc := c.toNat_lt
        have hl : r.length + 1 ≤ s.length := hl
        have hcc : ([c].getD (Int.toNat 0) 0).toNat = c.toNat := rfl
        have hac : k ≤ 8 → _ := fun h8 => acc_b v k ([c].getD (Int.toNat 0) 0).toNat h8 hv hc
        conv => whnf
        refine (takeC_s _ _ (by first | omega | assumption | decide | simp)).call [0] (by decide) (And.intro rfl trivial) (And.intro rfl trivial) ?_
        rintro _ _ ⟨rfl, rfl⟩
        conv => whnf
        refine both_f rfl ?_
        conv => whnf
        refine ⟨fun hh10 => ?_, fun hh10 => ?_⟩
        · simp only [decide_eq_true_eq, decide_eq_false_iff_not] at hh10
          conv => whnf
          refine .same ?_
          conv => whnf
          refine ⟨by (dsimp only at *; simp only [hcc] at *; exact congrArg (fun q : Nat × List UInt8 × Bool => SV.int .i64 (q.1 : Int)) (rb1 (by omega)).symm), ?_⟩
          conv => whnf
          (dsimp only at *; simp only [hcc] at *; rw [rb1 (by omega)]; exact ⟨_, rfl, .inr (.inl ⟨rfl, rfl⟩)⟩)
        · simp only [decide_eq_true_eq, decide_eq_false_iff_not] at hh10
          conv => whnf
          refine ⟨fun hh12 => ?_, fun hh12 => ?_⟩
          · simp only [decide_eq_true_eq, decide_eq_false_iff_not] at hh12
            conv => whnf
            refine ⟨by simp, ?_⟩
            conv => whnf
            refine ⟨fun hh13 => ?_, fun hh13 => ?_⟩
            · simp only [decide_eq_true_eq, decide_eq_false_iff_not] at hh13
              conv => whnf
              refine .same ?_
              conv => whnf
              refine ⟨by (dsimp only at *; simp only [hcc] at *; exact congrArg (fun q : Nat × List UInt8 × Bool => SV.int .i64 (q.1 : Int)) (rb1 (by omega)).symm), ?_⟩
              conv => whnf
              (dsimp only at *; simp only [hcc] at *; rw [rb1 (by omega)]; exact ⟨_, rfl, .inr (.inl ⟨rfl, rfl⟩)⟩)
            · simp only [decide_eq_true_eq, decide_eq_false_iff_not] at hh13
              conv => whnf
              refine ⟨by simp, ?_⟩
              conv => whnf
              refine ⟨by omega, ?_⟩
              conv => whnf
              refine ⟨by simp, ?_⟩
              conv => whnf
              refine ⟨fun hh15 => ?_, fun hh15 => ?_⟩
              · simp only [decide_eq_true_eq, decide_eq_false_iff_not] at hh15
                conv => whnf
                refine .same ?_
                conv => whnf
                refine ⟨fun hh16 => ?_, fun hh16 => ?_⟩
                · simp only [decide_eq_true_eq, decide_eq_false_iff_not] at hh16
                  conv => whnf
                  refine ⟨by (dsimp only at *; simp only [hcc] at *; have h8 : k ≤ 8 := (by omega); have hA := hac h8; have hm : c.toNat % 128 = c.toNat := Nat.mod_eq_of_lt (by omega); rw [hm] at hA; simp only [hA] at *; exact congrArg (fun q : Nat × List UInt8 × Bool => SV.int .i64 (q.1 : Int)) (rb2 (by omega) (by omega) (by omega)).symm), ?_⟩
                  conv => whnf
                  (dsimp only at *; simp only [hcc] at *; have h8 : k ≤ 8 := (by omega); have hA := hac h8; have hm : c.toNat % 128 = c.toNat := Nat.mod_eq_of_lt (by omega); rw [hm] at hA; simp only [hA] at *; rw [rb2 (by omega) (by omega) (by omega)]; exact ⟨_, rfl, .inr (.inl ⟨rfl, rfl⟩)⟩)
                · simp only [decide_eq_true_eq, decide_eq_false_iff_not] at hh16
                  conv => whnf
                  refine ⟨by (dsimp only at *; simp only [hcc] at *; have h8 : k ≤ 8 := (by omega); have hA := hac h8; have hm : c.toNat % 128 = c.toNat := Nat.mod_eq_of_lt (by omega); rw [hm] at hA; simp only [hA] at *; have hQ := rb3 (k := k) (v := v) (x := c) (r := r) (by omega) (by omega) (by omega); rw [hQ]; exact int_e (w64 _ (by omega) (by omega))), ?_⟩
                  conv => whnf
                  (dsimp only at *; simp only [hcc] at *; have h8 : k ≤ 8 := (by omega); have hA := hac h8; have hm : c.toNat % 128 = c.toNat := Nat.mod_eq_of_lt (by omega); rw [hm] at hA; simp only [hA] at *; rw [rb3 (by omega) (by omega) (by omega)]; exact ⟨_, rfl, .inl rfl⟩)
              · simp only [decide_eq_true_eq, decide_eq_false_iff_not] at hh15
                conv => whnf
                (dsimp only at *; simp only [hcc] at *; have h8 : k ≤ 8 := (by omega); have hA := hac h8; have hm : c.toNat % 128 = c.toNat - 128 := (by omega); rw [hm] at hA; refine ⟨⟨(k + 1, v + (c.toNat - 128) * 128 ^ k, r), by show k + 1 ≤ 9; omega, nxt_v hv (by omega), by show r.length ≤ s.length; omega, rb4 (by omega) (by omega)⟩, by show 10 - (k + 1) < 10 - k; omega, .of [some 0] (by rfl) ?_⟩)
                conv => whnf
                refine ⟨by omega, ?_⟩
                conv => whnf
                refine ⟨by (dsimp only at *; simp only [hcc] at *; rw [w64 _ (by omega) (by omega)]; omega), ?_⟩
                conv => whnf
                refine ⟨by rfl, ?_⟩
                conv => whnf
                refine ⟨by rfl, ?_⟩
                conv => whnf
                exact trivial
          · simp only [decide_eq_true_eq, decide_eq_false_iff_not] at hh12
            conv => whnf
            refine ⟨by simp, ?_⟩
            conv => whnf
            refine ⟨by omega, ?_⟩
            conv => whnf
            refine ⟨by simp, ?_⟩
            conv => whnf
            refine ⟨fun hh20 => ?_, fun hh20 => ?_⟩
            · simp only [decide_eq_true_eq, decide_eq_false_iff_not] at hh20
              conv => whnf
              refine .same ?_
              conv => whnf
              refine ⟨fun hh21 => ?_, fun hh21 => ?_⟩
              · simp only [decide_eq_true_eq, decide_eq_false_iff_not] at hh21
                conv => whnf
                refine ⟨by (dsimp only at *; simp only [hcc] at *; have h8 : k ≤ 8 := (by omega); have hA := hac h8; have hm : c.toNat % 128 = c.toNat := Nat.mod_eq_of_lt (by omega); rw [hm] at hA; simp only [hA] at *; exact congrArg (fun q : Nat × List UInt8 × Bool => SV.int .i64 (q.1 : Int)) (rb2 (by omega) (by omega) (by omega)).symm), ?_⟩
                conv => whnf
                (dsimp only at *; simp only [hcc] at *; have h8 : k ≤ 8 := (by omega); have hA := hac h8; have hm : c.toNat % 128 = c.toNat := Nat.mod_eq_of_lt (by omega); rw [hm] at hA; simp only [hA] at *; rw [rb2 (by omega) (by omega) (by omega)]; exact ⟨_, rfl, .inr (.inl ⟨rfl, rfl⟩)⟩)
              · simp only [decide_eq_true_eq, decide_eq_false_iff_not] at hh21
                conv => whnf
                refine ⟨by (dsimp only at *; simp only [hcc] at *; have h8 : k ≤ 8 := (by omega); have hA := hac h8; have hm : c.toNat % 128 = c.toNat := Nat.mod_eq_of_lt (by omega); rw [hm] at hA; simp only [hA] at *; have hQ := rb3 (k := k) (v := v) (x := c) (r := r) (by omega) (by omega) (by omega); rw [hQ]; exact int_e (w64 _ (by omega) (by omega))), ?_⟩
                conv => whnf
                (dsimp only at *; simp only [hcc] at *; have h8 : k ≤ 8 := (by omega); have hA := hac h8; have hm : c.toNat % 128 = c.toNat := Nat.mod_eq_of_lt (by omega); rw [hm] at hA; simp only [hA] at *; rw [rb3 (by omega) (by omega) (by omega)]; exact ⟨_, rfl, .inl rfl⟩)
            · simp only [decide_eq_true_eq, decide_eq_false_iff_not] at hh20
              conv => whnf
              (dsimp only at *; simp only [hcc] at *; have h8 : k ≤ 8 := (by omega); have hA := hac h8; have hm : c.toNat % 128 = c.toNat - 128 := (by omega); rw [hm] at hA; refine ⟨⟨(k + 1, v + (c.toNat - 128) * 128 ^ k, r), by show k + 1 ≤ 9; omega, nxt_v hv (by omega), by show r.length ≤ s.length; omega, rb4 (by omega) (by omega)⟩, by show 10 - (k + 1) < 10 - k; omega, .of [some 0] (by rfl) ?_⟩)
              conv => whnf
              refine ⟨by omega, ?_⟩
              conv => whnf
              refine ⟨by (dsimp only at *; simp only [hcc] at *; rw [w64 _ (by omega) (by omega)]; omega), ?_⟩
              conv => whnf
              refine ⟨by rfl, ?_⟩
              conv => whnf
              refine ⟨by rfl, ?_⟩
              conv => whnf
              exact trivial
end Go.Proofs.Ytdommpfnoiemkaa

/- Chapter 27: configurations read. -/
namespace Go.Proofs.Ytdommpfnoiemkaa
open Go.Sx
set_option linter.unusedSimpArgs false
set_option linter.unusedVariables false
def st (s : List UInt8) (b : Bool) : Option (List UInt8) := if b = true then none else some s
def tg {α : Type} (z : α) (s : List UInt8) (b : Bool) : Option (α × List UInt8) := if b = true then none else some (z, s)
@[simp] theorem st_t (s : List UInt8) : st s true = none := rfl
@[simp] theorem st_f (s : List UInt8) : st s false = some s := rfl
@[simp] theorem tg_t {α : Type} (z : α) (s : List UInt8) : tg z s true = none := rfl
@[simp] theorem tg_f {α : Type} (z : α) (s : List UInt8) : tg z s false = some (z, s) := rfl
def pN (s : List UInt8) : Option (Nat × List UInt8) := tg (rNk 0 0 s).1 (rNk 0 0 s).2.1 (rNk 0 0 s).2.2
theorem rN_tg (s : List UInt8) (b : Bool) : tg (rN s b).1 (rN s b).2.1 (rN s b).2.2 = (st s b).bind pN := by
  cases b <;> rfl
/-- One step of a reading, put ahead of the rest. -/
theorem chain {α β : Type} {z : α} {s0 s1 : List UInt8} {b0 b1 : Bool} {p : List UInt8 → Option (α × List UInt8)} (h : tg z s1 b1 = (st s0 b0).bind p) (k : α → List UInt8 → Option β) :
    (st s0 b0).bind (fun s => (p s).bind fun q => k q.1 q.2) = (st s1 b1).bind (k z) := by
  have e : (st s0 b0).bind (fun s => (p s).bind fun q => k q.1 q.2) = ((st s0 b0).bind p).bind fun q => k q.1 q.2 := by
    cases st s0 b0 <;> rfl
  rw [e, ← h]
  cases b1 <;> rfl
def pNs : Nat → List UInt8 → Option (List Nat × List UInt8)
  | 0, s => some ([], s)
  | k + 1, s => (pN s).bind fun p => (pNs k p.2).bind fun q => some (p.1 :: q.1, q.2)
theorem pNs_nil (s : List UInt8) (b : Bool) : tg ([] : List Nat) s b = (st s b).bind (pNs 0) := by cases b <;> rfl
theorem pNs_cons {z k : Nat} {zs : List Nat} {s0 s1 s2 : List UInt8} {b0 b1 b2 : Bool} (h : tg z s1 b1 = (st s0 b0).bind pN) (h2 : tg zs s2 b2 = (st s1 b1).bind (pNs k)) : tg (z :: zs) s2 b2 = (st s0 b0).bind (pNs (k + 1)) := by
  have e := chain h fun z t => (pNs k t).bind fun q => some (z :: q.1, q.2)
  show _ = (st s0 b0).bind fun s => (pN s).bind fun p => (pNs k p.2).bind fun q => some (p.1 :: q.1, q.2)
  rw [e]
  have e2 : ((st s1 b1).bind fun t => (pNs k t).bind fun q => some (z :: q.1, q.2)) = ((st s1 b1).bind (pNs k)).bind fun q => some (z :: q.1, q.2) := by cases st s1 b1 <;> rfl
  rw [e2, ← h2]
  cases b2 <;> rfl
def pR : Nat → List UInt8 → Option (List (Int × Int) × List UInt8)
  | 0, s => some ([], s)
  | n + 1, s => (pN s).bind fun p => (pN p.2).bind fun q => (pR n q.2).bind fun r => some (((p.1 : Int), (q.1 : Int)) :: r.1, r.2)
def mkCf (l : List Nat) (rs : List (Int × Int)) : Cf := ⟨l.getD 0 0, l.getD 1 0, l.getD 2 0, l.getD 3 0, l.getD 4 0, l.getD 5 0, l.getD 6 0, l.getD 7 0, l.getD 8 0, l.getD 9 0, l.getD 10 0, l.getD 11 0, l.getD 12 0, l.getD 13 0, rs⟩
def pC (s : List UInt8) : Option (Cf × List UInt8) := (pNs 14 s).bind fun p => (pN p.2).bind fun q => (pR q.1 q.2).bind fun r => some (mkCf p.1 r.1, r.2)
theorem rNk_lt : ∀ (s : List UInt8) (k v : Nat), (rNk k v s).2.2 = true ∨ (rNk k v s).2.1.length < s.length := by
  intro s k v
  cases s with
  | nil => exact .inl rfl
  | cons x r =>
    right
    simp only [rNk]
    split
    · simp
    · split
      · split <;> simp
      · have := (rNk_le r (k + 1) (v + (x.toNat - 128) * 128 ^ k)).2
        simp only [List.length_cons]; omega
theorem rN_lt (s : List UInt8) (b : Bool) : (rN s b).2.2 = true ∨ (rN s b).2.1.length < s.length := by
  cases b with
  | true => exact .inl rfl
  | false => exact rNk_lt s 0 0
theorem rN_bad (s : List UInt8) : (rN s true).2.2 = true := rfl
theorem numE_s (s : List UInt8) (b : Bool) (hs : s.length ≤ 1000000) :
    OSpec Try.prog 114 [.ptr 0 0] [rdB s b] fun v ho => ∃ (z : Nat) (s' : List UInt8) (b' : Bool), v = .int .i64 (z : Int) ∧ ho = [rdB s' b'] ∧ z ≤ 4611686018427387904 ∧ s'.length ≤ s.length ∧ tg z s' b' = (st s b).bind pN :=
  (rnum_s s b hs).mono fun v ho h => ⟨_, _, _, h.1, h.2, (rN_le s b).1, (rN_le s b).2, rN_tg s b⟩
theorem intR_s (s : List UInt8) (b : Bool) (hs : s.length ≤ 1000000) :
    OSpec Try.prog 118 [.ptr 0 0] [rdB s b] fun v ho => v = .int .i64 ((rN s b).1 : Int) ∧ ho = [rdB (rN s b).2.1 (rN s b).2.2] := by
  refine toB1 (pre := [.str (rN s b).2.1]) ?_
  refine .of_code tab_ok Try.func118 (by rfl) rfl trivial ?_
  conv => whnf
  refine (rnum_s _ _ (by first | omega | assumption | decide | simp)).call [0] (by decide) trivial (And.intro rfl trivial) ?_
  rintro _ _ ⟨rfl, rfl⟩
  conv => whnf
  refine ⟨by rfl, ?_⟩
  conv => whnf
  (exact ⟨_, rfl, .inl rfl⟩)
theorem intE_s (s : List UInt8) (b : Bool) (hs : s.length ≤ 1000000) :
    OSpec Try.prog 118 [.ptr 0 0] [rdB s b] fun v ho => ∃ (z : Nat) (s' : List UInt8) (b' : Bool), v = .int .i64 (z : Int) ∧ ho = [rdB s' b'] ∧ z ≤ 4611686018427387904 ∧ s'.length ≤ s.length ∧ tg z s' b' = (st s b).bind pN :=
  (intR_s s b hs).mono fun v ho h => ⟨_, _, _, h.1, h.2, (rN_le s b).1, (rN_le s b).2, rN_tg s b⟩
theorem toBE {P : Program} {f : FuncId} {args : List SV} {hin : Hp} {α : Type} {T : TypeId} {p : α → List UInt8 → Bool → Prop} {V : α → SV}
    (hs : OSpec P f args hin fun v ho => ∃ (z : α) (s' : List UInt8) (b' : Bool), p z s' b' ∧ v = V z ∧ ∃ c, ho = [.fix T [.str s', c]] ∧ BoolIs b' c) : OSpec P f args hin fun v ho => ∃ (z : α) (s' : List UInt8) (b' : Bool), p z s' b' ∧ v = V z ∧ ho = [.fix T [.str s', .bool b']] :=
  (OSpec.toB (ι := α × List UInt8 × Bool) (p := fun i => p i.1 i.2.1 i.2.2) (V := fun i => V i.1) (pre := fun i => [.str i.2.1]) (b := fun i => i.2.2) (hs.mono fun s h ⟨z, s', b', h1, h2, c, h3, h4⟩ => ⟨(z, s', b'), h1, h2, c, h3, h4⟩)).mono fun s h ⟨i, h1, h2, h3⟩ => ⟨i.1, i.2.1, i.2.2, h1, h2, h3⟩
theorem pR_step {n z1 z2 : Nat} {rs : List (Int × Int)} {s s1 s2 : List UInt8} {b b1 b2 : Bool} (h1 : tg z1 s1 b1 = (st s b).bind pN) (h2 : tg z2 s2 b2 = (st s1 b1).bind pN) :
    ((st s b).bind fun t => (pR (n + 1) t).bind fun r => some (rs ++ r.1, r.2)) = (st s2 b2).bind fun t => (pR n t).bind fun r => some ((rs ++ [((z1 : Int), (z2 : Int))]) ++ r.1, r.2) := by
  have e := chain h1 fun z t => (pN t).bind fun q => (pR n q.2).bind fun r => some (rs ++ (((z : Int), (q.1 : Int)) :: r.1), r.2)
  have e2 := chain h2 fun z t => (pR n t).bind fun r => some (rs ++ (((z1 : Int), (z : Int)) :: r.1), r.2)
  refine Eq.trans ?_ (e.trans (e2.trans ?_))
  · simp only [pR, Option.bind_assoc, Option.bind_some]
  · simp only [List.append_assoc, List.cons_append, List.nil_append]
theorem pR_nil (n : Nat) (s : List UInt8) (b : Bool) : (st s b).bind (pR n) = (st s b).bind fun t => (pR n t).bind fun r => some (([] : List (Int × Int)) ++ r.1, r.2) := by
  cases b with
  | true => rfl
  | false =>
    simp only [st_f, Option.bind_some, List.nil_append]
    cases pR n s <;> rfl
theorem pR_end {n : Nat} {rs : List (Int × Int)} {s : List UInt8} {b : Bool} (h : n = 0 ∨ b = true) : ((st s b).bind fun t => (pR n t).bind fun r => some (rs ++ r.1, r.2)) = tg rs s b := by
  cases b with
  | true => rfl
  | false =>
    rcases h with rfl | h
    · simp [pR]
    · cases h
theorem pC_fin {l : List Nat} {n : Nat} {rs : List (Int × Int)} {s s1 s2 s3 : List UInt8} {b b1 b2 b3 : Bool} (h1 : tg l s1 b1 = (st s b).bind (pNs 14)) (h2 : tg n s2 b2 = (st s1 b1).bind pN) (h3 : tg rs s3 b3 = (st s2 b2).bind (pR n)) :
    tg (mkCf l rs) s3 b3 = (st s b).bind pC := by
  have e1 := chain h1 fun l t => (pN t).bind fun q => (pR q.1 q.2).bind fun r => some (mkCf l r.1, r.2)
  have e2 := chain h2 fun n t => (pR n t).bind fun r => some (mkCf l r.1, r.2)
  have e3 : ((st s2 b2).bind fun t => (pR n t).bind fun r => some (mkCf l r.1, r.2)) = ((st s2 b2).bind (pR n)).bind fun r => some (mkCf l r.1, r.2) := by cases st s2 b2 <;> rfl
  refine Eq.trans ?_ (e1.trans (e2.trans (e3.trans (by rw [← h3])))).symm
  cases b3 <;> rfl
set_option maxRecDepth 100000 in
set_option maxHeartbeats 8000000 in
theorem rconfig_s (s : List UInt8) (b : Bool) (hs : s.length ≤ 1000000) :
    OSpec Try.prog 113 [.ptr 0 0] [rdB s b] fun v ho => ∃ (c : Cf) (s' : List UInt8) (b' : Bool), (tg c s' b' = (st s b).bind pC ∧ s'.length ≤ s.length ∧ c.rs.length ≤ 1000001) ∧ v = cfE c ∧ ho = [rdB s' b'] := by
  refine toBE ?_
  refine .of_code tab_ok Try.func113 (by rfl) rfl trivial ?_
  conv => whnf
  refine (intE_s _ _ (by first | omega | assumption | decide | simp)).call [0] (by decide) trivial (And.intro rfl trivial) ?_
  rintro _ _ ⟨u0, u1, u2, rfl, rfl, g3, g4, g5⟩
  conv => whnf
  refine (numE_s _ _ (by first | omega | assumption | decide | simp)).call [0] (by decide) trivial (And.intro rfl trivial) ?_
  rintro _ _ ⟨u10, u11, u12, rfl, rfl, g13, g14, g15⟩
  conv => whnf
  refine (numE_s _ _ (by first | omega | assumption | decide | simp)).call [0] (by decide) trivial (And.intro rfl trivial) ?_
  rintro _ _ ⟨u20, u21, u22, rfl, rfl, g23, g24, g25⟩
  conv => whnf
  refine (intE_s _ _ (by first | omega | assumption | decide | simp)).call [0] (by decide) trivial (And.intro rfl trivial) ?_
  rintro _ _ ⟨u30, u31, u32, rfl, rfl, g33, g34, g35⟩
  conv => whnf
  refine (intE_s _ _ (by first | omega | assumption | decide | simp)).call [0] (by decide) trivial (And.intro rfl trivial) ?_
  rintro _ _ ⟨u40, u41, u42, rfl, rfl, g43, g44, g45⟩
  conv => whnf
  refine (intE_s _ _ (by first | omega | assumption | decide | simp)).call [0] (by decide) trivial (And.intro rfl trivial) ?_
  rintro _ _ ⟨u50, u51, u52, rfl, rfl, g53, g54, g55⟩
  conv => whnf
  refine (intE_s _ _ (by first | omega | assumption | decide | simp)).call [0] (by decide) trivial (And.intro rfl trivial) ?_
  rintro _ _ ⟨u60, u61, u62, rfl, rfl, g63, g64, g65⟩
  conv => whnf
  refine (intE_s _ _ (by first | omega | assumption | decide | simp)).call [0] (by decide) trivial (And.intro rfl trivial) ?_
  rintro _ _ ⟨u70, u71, u72, rfl, rfl, g73, g74, g75⟩
  conv => whnf
  refine (numE_s _ _ (by first | omega | assumption | decide | simp)).call [0] (by decide) trivial (And.intro rfl trivial) ?_
  rintro _ _ ⟨u80, u81, u82, rfl, rfl, g83, g84, g85⟩
  conv => whnf
  refine (intE_s _ _ (by first | omega | assumption | decide | simp)).call [0] (by decide) trivial (And.intro rfl trivial) ?_
  rintro _ _ ⟨u90, u91, u92, rfl, rfl, g93, g94, g95⟩
  conv => whnf
  refine (intE_s _ _ (by first | omega | assumption | decide | simp)).call [0] (by decide) trivial (And.intro rfl trivial) ?_
  rintro _ _ ⟨u100, u101, u102, rfl, rfl, g103, g104, g105⟩
  conv => whnf
  refine (numE_s _ _ (by first | omega | assumption | decide | simp)).call [0] (by decide) trivial (And.intro rfl trivial) ?_
  rintro _ _ ⟨u110, u111, u112, rfl, rfl, g113, g114, g115⟩
  conv => whnf
  refine (intE_s _ _ (by first | omega | assumption | decide | simp)).call [0] (by decide) trivial (And.intro rfl trivial) ?_
  rintro _ _ ⟨u120, u121, u122, rfl, rfl, g123, g124, g125⟩
  conv => whnf
  refine (numE_s _ _ (by first | omega | assumption | decide | simp)).call [0] (by decide) trivial (And.intro rfl trivial) ?_
  rintro _ _ ⟨u130, u131, u132, rfl, rfl, g133, g134, g135⟩
  conv => whnf
  refine (numE_s _ _ (by first | omega | assumption | decide | simp)).call [0] (by decide) trivial (And.intro rfl trivial) ?_
  rintro _ _ ⟨u140, u141, u142, rfl, rfl, g143, g144, g145⟩
  conv => whnf
  -- LOOP m=[rdB s b].length F=[SV.ptr 0 0, SV.undef, SV.ptr 1 0, SV.ptr 2 0, SV.int IntKind.i64 ↑u140, SV.ptr 0 0, SV.int IntKind.i64 ↑u0, SV.agg [SV.int IntKind.i64 ↑u0, SV.int IntKind.i64 0, SV.int IntKind.i64 0, SV.int IntKind.i64 0, SV.int IntKind.i64 0, SV.int IntKind.i64 0, SV.int IntKind.i64 0, SV.int IntKind.i64 0, SV.int IntKind.i64 0, SV.int IntKind.i64 0, SV.int IntKind.i64 0, SV.int IntKind.i64 0, SV.int IntKind.i64 0, SV.int IntKind.i64 0, SV.nils], SV.ptr 0 0, SV.int IntKind.i64 ↑u10, SV.ptr 0 0, SV.int IntKind.i64 ↑u20, SV.agg [SV.int IntKind.i64 ↑u10, SV.int IntKind.i64 ↑u20], SV.ptr 2 (0 + (1, 64, 2).fst), SV.ptr 0 0, SV.int IntKind.i64 ↑u30, SV.ptr 0 0, SV.int IntKind.i64 ↑u40, SV.ptr 0 0, SV.int IntKind.i64 ↑u50, SV.agg [SV.int IntKind.i64 ↑u30, SV.int IntKind.i64 ↑u40, SV.int IntKind.i64 ↑u50], SV.ptr 2 (0 + (3, 66, 3).fst), SV.ptr 0 0, SV.int IntKind.i64 ↑u60, SV.ptr 0 0, SV.int IntKind.i64 ↑u70, SV.ptr 0 0, SV.int IntKind.i64 ↑u80, SV.agg [SV.int IntKind.i64 ↑u60, SV.int IntKind.i64 ↑u70, SV.int IntKind.i64 ↑u80], SV.ptr 2 (0 + (6, 68, 3).fst), SV.ptr 0 0, SV.int IntKind.i64 ↑u90, SV.ptr 0 0, SV.int IntKind.i64 ↑u100, SV.ptr 0 0, SV.int IntKind.i64 ↑u110, SV.ptr 0 0, SV.int IntKind.i64 ↑u120, SV.ptr 0 0, SV.int IntKind.i64 ↑u130, SV.ptr 2 (0 + (9, 3, 1).fst), SV.ptr 2 (0 + (10, 3, 1).fst), SV.ptr 2 (0 + (11, 2, 1).fst), SV.ptr 2 (0 + (12, 3, 1).fst), SV.ptr 2 (0 + (13, 2, 1).fst), SV.ptr 0 0, SV.int IntKind.i64 ↑u140, SV.undef, SV.undef, SV.undef, SV.undef, ⋯] heap=[rdB u141 u142, (1, Blk.fix 71 [SV.int IntKind.i64 0, SV.int IntKind.i64 0, SV.int IntKind.i64 0, SV.int IntKind.i64 0, SV.int IntKind.i64 0, SV.int IntKind.i64 0, SV.int IntKind.i64 0, SV.int IntKind.i64 0, SV.int IntKind.i64 0, SV.int IntKind.i64 0, SV.int IntKind.i64 0, SV.int IntKind.i64 0, SV.int IntKind.i64 0, SV.int IntKind.i64 0, SV.nils]).snd, (2, Blk.fix 71 [SV.int IntKind.i64 ↑u0, SV.int IntKind.i64 ↑u10, SV.int IntKind.i64 ↑u20, SV.int IntKind.i64 ↑u30, SV.int IntKind.i64 ↑u40, SV.int IntKind.i64 ↑u50, SV.int IntKind.i64 ↑u60, SV.int IntKind.i64 ↑u70, SV.int IntKind.i64 ↑u80, SV.int IntKind.i64 ↑u90, SV.int IntKind.i64 ↑u100, SV.int IntKind.i64 ↑u110, SV.int IntKind.i64 ↑u120, SV.int IntKind.i64 ↑u130, SV.nils]).snd]
  have hns : tg [u0, u10, u20, u30, u40, u50, u60, u70, u80, u90, u100, u110, u120, u130] u131 u132 = (st s b).bind (pNs 14) := pNs_cons g5 (pNs_cons g15 (pNs_cons g25 (pNs_cons g35 (pNs_cons g45 (pNs_cons g55 (pNs_cons g65 (pNs_cons g75 (pNs_cons g85 (pNs_cons g95 (pNs_cons g105 (pNs_cons g115 (pNs_cons g125 (pNs_cons g135 (pNs_nil _ _))))))))))))))
  obtain ⟨N, hN⟩ : ∃ N, N = u141.length := ⟨_, rfl⟩
  have hNl : N ≤ 1000000 := by omega
  refine LoopG.inv tab_ok 69 (fun x : { x : Nat × List (Int × Int) × List UInt8 × Bool // x.1 ≤ 4611686018427387904 ∧ x.2.2.1.length ≤ N ∧ x.2.1.length ≤ 1000001 ∧ (x.2.2.2 = false → x.2.1.length + x.2.2.1.length ≤ N) ∧ (st u141 u142).bind (pR u140) = ((st x.2.2.1 x.2.2.2).bind fun t => (pR x.1 t).bind fun r => some (x.2.1 ++ r.1, r.2)) } => [(0, .ptr 0 0), (2, .ptr 1 0), (3, .ptr 2 0), (4, .int .i64 (x.1.1 : Int))])
    (fun x => [rdB x.1.2.2.1 x.1.2.2.2, .fix 71 [.int .i64 0, .int .i64 0, .int .i64 0, .int .i64 0, .int .i64 0, .int .i64 0, .int .i64 0, .int .i64 0, .int .i64 0, .int .i64 0, .int .i64 0, .int .i64 0, .int .i64 0, .int .i64 0, .nils], .fix 71 [.int .i64 (u0 : Int), .int .i64 (u10 : Int), .int .i64 (u20 : Int), .int .i64 (u30 : Int), .int .i64 (u40 : Int), .int .i64 (u50 : Int), .int .i64 (u60 : Int), .int .i64 (u70 : Int), .int .i64 (u80 : Int), .int .i64 (u90 : Int), .int .i64 (u100 : Int), .int .i64 (u110 : Int), .int .i64 (u120 : Int), .int .i64 (u130 : Int), .sl 3], .row 115 2 (x.1.2.1.map rtE)]) (fun x => x.1.1) ⟨(u140, [], u141, u142), by omega, by show u141.length ≤ N; omega, by simp, by intro _; show 0 + u141.length ≤ N; omega, pR_nil _ _ _⟩ (.of [some 0, some 1, some 2, none] (by rfl) ?_) ?_
  · conv => whnf
    refine ⟨by rfl, ?_⟩
    conv => whnf
    refine ⟨by rfl, ?_⟩
    conv => whnf
    refine ⟨by rfl, ?_⟩
    conv => whnf
    refine ⟨by rfl, ?_⟩
    conv => whnf
    refine ⟨by rfl, ?_⟩
    conv => whnf
    refine ⟨by rfl, ?_⟩
    conv => whnf
    refine ⟨by rfl, ?_⟩
    conv => whnf
    refine ⟨by rfl, ?_⟩
    conv => whnf
    refine ⟨by rfl, ?_⟩
    conv => whnf
    refine ⟨by rfl, ?_⟩
    conv => whnf
    refine ⟨by rfl, ?_⟩
    conv => whnf
    refine ⟨by rfl, ?_⟩
    conv => whnf
    refine ⟨by rfl, ?_⟩
    conv => whnf
    refine ⟨by rfl, ?_⟩
    conv => whnf
    refine ⟨by rfl, ?_⟩
    conv => whnf
    refine ⟨by rfl, ?_⟩
    conv => whnf
    refine ⟨by rfl, ?_⟩
    conv => whnf
    refine ⟨by rfl, ?_⟩
    conv => whnf
    refine ⟨by rfl, ?_⟩
    conv => whnf
    refine ⟨by rfl, ?_⟩
    conv => whnf
    refine ⟨by rfl, ?_⟩
    conv => whnf
    refine ⟨by rfl, ?_⟩
    conv => whnf
    refine ⟨by rfl, ?_⟩
    conv => whnf
    refine ⟨by rfl, ?_⟩
    conv => whnf
    refine ⟨by rfl, ?_⟩
    conv => whnf
    refine ⟨by rfl, ?_⟩
    conv => whnf
    refine ⟨by rfl, ?_⟩
    conv => whnf
    refine ⟨by rfl, ?_⟩
    conv => whnf
    refine ⟨by rfl, ?_⟩
    conv => whnf
    refine ⟨by rfl, ?_⟩
    conv => whnf
    refine ⟨by rfl, ?_⟩
    conv => whnf
    refine ⟨by rfl, ?_⟩
    conv => whnf
    exact trivial
  · intro x
    obtain ⟨⟨n, rs, t, bb⟩, h1, h2, h3, h4, h5⟩ := x
    have h1 : n ≤ 4611686018427387904 := h1
    have h2 : t.length ≤ N := h2
    have h3 : rs.length ≤ 1000001 := h3
    have h4 : bb = false → rs.length + t.length ≤ N := h4
    have hmr : (rs.map rtE).length = rs.length := List.length_map ..
    have hfin : n = 0 ∨ bb = true → tg (mkCf [u0, u10, u20, u30, u40, u50, u60, u70, u80, u90, u100, u110, u120, u130] rs) t bb = (st s b).bind pC := fun hq => pC_fin hns g145 ((pR_end hq).symm.trans h5.symm)
    have q1 := rN_le t bb
    have q2 := rN_le (rN t bb).2.1 (rN t bb).2.2
    have hnx : 0 < n → (st u141 u142).bind (pR u140) = ((st (rN (rN t bb).2.1 (rN t bb).2.2).2.1 (rN (rN t bb).2.1 (rN t bb).2.2).2.2).bind fun t' => (pR (n - 1) t').bind fun r => some ((rs ++ [(((rN t bb).1 : Int), ((rN (rN t bb).2.1 (rN t bb).2.2).1 : Int))]) ++ r.1, r.2)) := fun hn => by
      cases n with
      | zero => omega
      | succ m => exact h5.trans (pR_step (rN_tg t bb) (rN_tg (rN t bb).2.1 (rN t bb).2.2))
    have hlt : bb = false → (rN (rN t bb).2.1 (rN t bb).2.2).2.2 = false → rs.length + 1 + (rN (rN t bb).2.1 (rN t bb).2.2).2.1.length ≤ N := fun hb hb2 => by
      have a1 := rN_lt t bb
      have a2 := rN_lt (rN t bb).2.1 (rN t bb).2.2
      have a3 := h4 hb
      rcases a1 with a1 | a1
      · rw [a1, rN_bad] at hb2; cases hb2
      · rcases a2 with a2 | a2
        · rw [a2] at hb2; cases hb2
        · omega
    conv => whnf
    refine ⟨fun hh0 => ?_, fun hh0 => ?_⟩
    · simp only [decide_eq_true_eq, decide_eq_false_iff_not] at hh0
      conv => whnf
      refine ⟨fun hh1 => ?_, fun hh1 => ?_⟩
      · simp only [decide_eq_true_eq, decide_eq_false_iff_not] at hh1
        conv => whnf
        refine DrawG.of mixed tab_ok ?_
        conv => whnf
        refine (rnum_s _ _ (by first | omega | (dsimp only at *; omega) | assumption | decide | simp)).calld [0] (by decide) rfl trivial (And.intro rfl trivial) ?_
        conv => whnf
        refine (rnum_s _ _ (by first | omega | (dsimp only at *; omega) | assumption | decide | simp)).calld [0] (by decide) rfl trivial (And.intro rfl trivial) ?_
        conv => whnf
        refine ⟨by simp; omega, ?_⟩
        conv => whnf
        refine ⟨by kernel_rfl, ?_⟩
        conv => whnf
        (dsimp only at *; refine ⟨⟨(n - 1, rs ++ [(((rN t bb).1 : Int), ((rN (rN t bb).2.1 (rN t bb).2.2).1 : Int))], (rN (rN t bb).2.1 (rN t bb).2.2).2.1, (rN (rN t bb).2.1 (rN t bb).2.2).2.2), by show n - 1 ≤ _; omega, by show (rN (rN t bb).2.1 (rN t bb).2.2).2.1.length ≤ N; omega, by rw [List.length_append]; have := h4 (by simpa using hh1); simp only [List.length_cons, List.length_nil]; omega, fun hq => by rw [List.length_append]; exact hlt (by simpa using hh1) hq, hnx (by omega)⟩, by show n - 1 < n; omega, .of [some 0, some 1, some 2, some 7] (by rfl) ?_⟩)
        conv => whnf
        refine ⟨by (dsimp only at *; exact (w64 _ (by omega) (by omega)).trans (by omega)), ?_⟩
        conv => whnf
        refine ⟨by rfl, ?_⟩
        conv => whnf
        refine ⟨by rfl, ?_⟩
        conv => whnf
        refine ⟨by rfl, ?_⟩
        conv => whnf
        refine ⟨by rfl, ?_⟩
        conv => whnf
        refine ⟨by rfl, ?_⟩
        conv => whnf
        refine ⟨by rfl, ?_⟩
        conv => whnf
        refine ⟨by rfl, ?_⟩
        conv => whnf
        refine ⟨by rfl, ?_⟩
        conv => whnf
        refine ⟨by rfl, ?_⟩
        conv => whnf
        refine ⟨by rfl, ?_⟩
        conv => whnf
        refine ⟨by rfl, ?_⟩
        conv => whnf
        refine ⟨by rfl, ?_⟩
        conv => whnf
        refine ⟨by rfl, ?_⟩
        conv => whnf
        refine ⟨by rfl, ?_⟩
        conv => whnf
        refine ⟨by rfl, ?_⟩
        conv => whnf
        refine ⟨by rfl, ?_⟩
        conv => whnf
        refine ⟨by rfl, ?_⟩
        conv => whnf
        refine ⟨by rfl, ?_⟩
        conv => whnf
        refine ⟨by rfl, ?_⟩
        conv => whnf
        refine ⟨by rfl, ?_⟩
        conv => whnf
        refine ⟨by rfl, ?_⟩
        conv => whnf
        refine ⟨by rfl, ?_⟩
        conv => whnf
        refine ⟨by rfl, ?_⟩
        conv => whnf
        refine ⟨by rfl, ?_⟩
        conv => whnf
        refine ⟨by rfl, ?_⟩
        conv => whnf
        refine ⟨by rfl, ?_⟩
        conv => whnf
        refine ⟨by rfl, ?_⟩
        conv => whnf
        refine ⟨by rfl, ?_⟩
        conv => whnf
        refine ⟨by rfl, ?_⟩
        conv => whnf
        refine ⟨by rfl, ?_⟩
        conv => whnf
        refine ⟨by simp, ?_⟩
        conv => whnf
        exact trivial
      · simp only [decide_eq_true_eq, decide_eq_false_iff_not] at hh1
        conv => whnf
        refine .same ?_
        conv => whnf
        (dsimp only at *; refine ⟨mkCf [u0, u10, u20, u30, u40, u50, u60, u70, u80, u90, u100, u110, u120, u130] rs, t, bb, ⟨hfin (.inr (by simpa using hh1)), by omega, h3⟩, rfl, _, rfl, .inl rfl⟩)
    · simp only [decide_eq_true_eq, decide_eq_false_iff_not] at hh0
      conv => whnf
      refine .same ?_
      conv => whnf
      (dsimp only at *; refine ⟨mkCf [u0, u10, u20, u30, u40, u50, u60, u70, u80, u90, u100, u110, u120, u130] rs, t, bb, ⟨hfin (.inl (by omega)), by omega, h3⟩, rfl, _, rfl, .inl rfl⟩)
end Go.Proofs.Ytdommpfnoiemkaa

/- Chapter 27: events read. -/
namespace Go.Proofs.Ytdommpfnoiemkaa
open Go.Sx
set_option linter.unusedSimpArgs false
set_option linter.unusedVariables false
def rB (s : List UInt8) (b : Bool) : Bool × List UInt8 × Bool := if b = true then (false, s, true) else match s with
  | [] => (false, [], true)
  | x :: r => if 1 < x.toNat then (false, r, true) else (decide (x.toNat = 1), r, false)
def pB (s : List UInt8) : Option (Bool × List UInt8) := tg (rB s false).1 (rB s false).2.1 (rB s false).2.2
theorem rB_tg (s : List UInt8) (b : Bool) : tg (rB s b).1 (rB s b).2.1 (rB s b).2.2 = (st s b).bind pB := by cases b <;> rfl
theorem rB_bad (s : List UInt8) : (rB s true).2.2 = true := rfl
theorem rB_lt (s : List UInt8) (b : Bool) : ((rB s b).2.2 = true ∨ (rB s b).2.1.length < s.length) ∧ (rB s b).2.1.length ≤ s.length := by
  cases b with
  | true => exact ⟨.inl rfl, Nat.le_refl _⟩
  | false => cases s with
    | nil => exact ⟨.inl rfl, Nat.le_refl _⟩
    | cons x r =>
      by_cases h : 1 < x.toNat
      · rw [show rB (x :: r) false = (false, r, true) from by show (if 1 < x.toNat then _ else _) = _; rw [if_pos h]]; simp
      · rw [show rB (x :: r) false = (decide (x.toNat = 1), r, false) from by show (if 1 < x.toNat then _ else _) = _; rw [if_neg h]]; simp
theorem boolR_s (s : List UInt8) (b : Bool) (hs : s.length ≤ 1000000) :
    OSpec Try.prog 120 [.ptr 0 0] [rdB s b] fun v ho => v = .bool (rB s b).1 ∧ ho = [rdB (rB s b).2.1 (rB s b).2.2] := by
  refine toB1 (pre := [.str (rB s b).2.1]) ?_
  refine .of_code tab_ok Try.func120 (by rfl) rfl trivial ?_
  cases b with
  | true => conv => whnf
            refine (takeT_s _ _ (by first | omega | assumption | decide | simp) (by first | omega | assumption | decide | simp)).call [0] (by decide) (And.intro rfl trivial) (And.intro rfl trivial) ?_
            rintro _ _ ⟨rfl, rfl⟩
            conv => whnf
            refine both_f rfl ?_
            conv => whnf
            refine both_f rfl ?_
            conv => whnf
            refine ⟨by rfl, ?_⟩
            conv => whnf
            (exact ⟨_, rfl, .inl rfl⟩)
  | false => cases s with
    | nil => conv => whnf
             refine (takeN_s).call [0] (by decide) (And.intro rfl trivial) (And.intro rfl trivial) ?_
             rintro _ _ ⟨rfl, rfl⟩
             conv => whnf
             refine both_f rfl ?_
             conv => whnf
             refine both_f rfl ?_
             conv => whnf
             refine ⟨by rfl, ?_⟩
             conv => whnf
             (exact ⟨_, rfl, .inl rfl⟩)
    | cons x r =>
      have hr : r.length + 1 ≤ 1000000 := hs
      have hcc : ([x].getD (Int.toNat 0) 0).toNat = x.toNat := rfl
      by_cases h : 1 < x.toNat
      · rw [show rB (x :: r) false = (false, r, true) from by show (if 1 < x.toNat then _ else _) = _; rw [if_pos h]]
        conv => whnf
        refine (takeC_s _ _ (by first | omega | assumption | decide | simp)).call [0] (by decide) (And.intro rfl trivial) (And.intro rfl trivial) ?_
        rintro _ _ ⟨rfl, rfl⟩
        conv => whnf
        refine both_t rfl ?_
        conv => whnf
        refine ⟨by simp, ?_⟩
        conv => whnf
        refine both_t (by simp; omega) ?_
        conv => whnf
        refine ⟨by rfl, ?_⟩
        conv => whnf
        (exact ⟨_, rfl, .inr (.inl ⟨rfl, rfl⟩)⟩)
      · rw [show rB (x :: r) false = (decide (x.toNat = 1), r, false) from by show (if 1 < x.toNat then _ else _) = _; rw [if_neg h]]
        conv => whnf
        refine (takeC_s _ _ (by first | omega | assumption | decide | simp)).call [0] (by decide) (And.intro rfl trivial) (And.intro rfl trivial) ?_
        rintro _ _ ⟨rfl, rfl⟩
        conv => whnf
        refine both_t rfl ?_
        conv => whnf
        refine ⟨by simp, ?_⟩
        conv => whnf
        refine both_f (by simp; omega) ?_
        conv => whnf
        refine both_t rfl ?_
        conv => whnf
        refine ⟨by simp, ?_⟩
        conv => whnf
        refine ⟨by simp; omega, ?_⟩
        conv => whnf
        (exact ⟨_, rfl, .inl rfl⟩)
def pT (n : Nat) (s : List UInt8) : Option (List UInt8 × List UInt8) := if s.length < n then none else some (s.take n, s.drop n)
theorem tk_tg (s : List UInt8) (b : Bool) (n : Nat) : tg (tkV s b n) (tkS s b n) (tkG s b n) = (st s b).bind (pT n) := by
  cases b with
  | true => rfl
  | false =>
    by_cases h : s.length < n
    · have e : tkG s false n = true := by show (false || decide _) = true; rw [decide_eq_true (by omega)]; rfl
      rw [e]; simp [pT, h]
    · have e : tkG s false n = false := by show (false || decide _) = false; rw [decide_eq_false (by omega)]; rfl
      simp only [tkV, tkS, e]; simp [pT, h]
theorem tk_len (s : List UInt8) (b : Bool) (n : Nat) : (tkV s b n).length ≤ s.length ∧ (tkS s b n).length ≤ s.length := by
  unfold tkV tkS; split
  · simp
  · simp; omega
theorem takeE_s (s : List UInt8) (b : Bool) (n : Nat) (hs : s.length ≤ 1000000) :
    OSpec Try.prog 119 [.ptr 0 0, .int .i64 (n : Int)] [rdB s b] fun v ho => ∃ (z s' : List UInt8) (b' : Bool), v = .str z ∧ ho = [rdB s' b'] ∧ z.length ≤ s.length ∧ s'.length ≤ s.length ∧ tg z s' b' = (st s b).bind (pT n) :=
  (take_s s b n (by omega) (by omega)).mono fun v ho h => ⟨_, _, _, h.1, h.2, (tk_len s b n).1, (tk_len s b n).2, tk_tg s b n⟩
def pF : Nat → List UInt8 → Option (List Bool × List UInt8)
  | 0, s => some ([], s)
  | n + 1, s => (pB s).bind fun p => (pF n p.2).bind fun r => some (p.1 :: r.1, r.2)
def mkEv (l : List Nat) (s : List UInt8) (fl : List Bool) : Ev := ⟨l.getD 0 0, l.getD 1 0, l.getD 2 0, l.getD 3 0, s, fl⟩
def pE (s : List UInt8) : Option (Ev × List UInt8) := (pNs 4 s).bind fun p => (pN p.2).bind fun q => (pT q.1 q.2).bind fun u => (pN u.2).bind fun w => (pF w.1 w.2).bind fun r => some (mkEv p.1 u.1 r.1, r.2)
theorem pF_step {n : Nat} {z : Bool} {rs : List Bool} {s s1 : List UInt8} {b b1 : Bool} (h1 : tg z s1 b1 = (st s b).bind pB) :
    ((st s b).bind fun t => (pF (n + 1) t).bind fun r => some (rs ++ r.1, r.2)) = (st s1 b1).bind fun t => (pF n t).bind fun r => some ((rs ++ [z]) ++ r.1, r.2) := by
  have e := chain h1 fun z t => (pF n t).bind fun r => some (rs ++ (z :: r.1), r.2)
  refine Eq.trans ?_ (e.trans ?_)
  · simp only [pF, Option.bind_assoc, Option.bind_some]
  · simp only [List.append_assoc, List.cons_append, List.nil_append]
theorem pF_nil (n : Nat) (s : List UInt8) (b : Bool) : (st s b).bind (pF n) = (st s b).bind fun t => (pF n t).bind fun r => some (([] : List Bool) ++ r.1, r.2) := by
  cases b with
  | true => rfl
  | false =>
    simp only [st_f, Option.bind_some, List.nil_append]
    cases pF n s <;> rfl
theorem pF_end {n : Nat} {rs : List Bool} {s : List UInt8} {b : Bool} (h : n = 0 ∨ b = true) : ((st s b).bind fun t => (pF n t).bind fun r => some (rs ++ r.1, r.2)) = tg rs s b := by
  cases b with
  | true => rfl
  | false =>
    rcases h with rfl | h
    · simp [pF]
    · cases h
theorem pE_fin {l : List Nat} {n m : Nat} {u : List UInt8} {fl : List Bool} {s s1 s2 s3 s4 s5 : List UInt8} {b b1 b2 b3 b4 b5 : Bool} (h1 : tg l s1 b1 = (st s b).bind (pNs 4)) (h2 : tg n s2 b2 = (st s1 b1).bind pN)
    (h3 : tg u s3 b3 = (st s2 b2).bind (pT n)) (h4 : tg m s4 b4 = (st s3 b3).bind pN) (h5 : tg fl s5 b5 = (st s4 b4).bind (pF m)) :
    tg (mkEv l u fl) s5 b5 = (st s b).bind pE := by
  have e1 := chain h1 fun l t => (pN t).bind fun q => (pT q.1 q.2).bind fun u => (pN u.2).bind fun w => (pF w.1 w.2).bind fun r => some (mkEv l u.1 r.1, r.2)
  have e2 := chain h2 fun n t => (pT n t).bind fun u => (pN u.2).bind fun w => (pF w.1 w.2).bind fun r => some (mkEv l u.1 r.1, r.2)
  have e3 := chain h3 fun u t => (pN t).bind fun w => (pF w.1 w.2).bind fun r => some (mkEv l u r.1, r.2)
  have e4 := chain h4 fun m t => (pF m t).bind fun r => some (mkEv l u r.1, r.2)
  have e5 : ((st s4 b4).bind fun t => (pF m t).bind fun r => some (mkEv l u r.1, r.2)) = ((st s4 b4).bind (pF m)).bind fun r => some (mkEv l u r.1, r.2) := by cases st s4 b4 <;> rfl
  refine Eq.trans ?_ (e1.trans (e2.trans (e3.trans (e4.trans (e5.trans (by rw [← h5])))))).symm
  cases b5 <;> rfl
theorem pN_lt {z : Nat} {s s1 : List UInt8} {b b1 : Bool} (h : tg z s1 b1 = (st s b).bind pN) : b1 = true ∨ s1.length < s.length := by
  cases b1 with
  | true => exact .inl rfl
  | false =>
    right
    cases b with
    | true => simp at h
    | false =>
      have hl := rNk_lt s 0 0
      unfold pN at h
      simp only [st_f, Option.bind_some] at h
      rcases hl with hl | hl
      · rw [hl] at h; simp at h
      · cases hb : (rNk 0 0 s).2.2 with
        | true => rw [hb] at h; simp at h
        | false => rw [hb] at h; simp at h; rw [h.2]; exact hl
theorem pE_none {s : List UInt8} {b : Bool} (h : (st s b).bind pN = none) : (st s b).bind pE = none := by
  cases b with
  | true => rfl
  | false =>
    simp only [st_f, Option.bind_some] at h ⊢
    simp only [pE, pNs, h, Option.bind_none]
set_option maxRecDepth 100000 in
set_option maxHeartbeats 8000000 in
theorem revE_s (s : List UInt8) (b : Bool) (hs : s.length ≤ 1000000) :
    OSpec Try.prog 115 [.ptr 0 0] [rdB s b] fun v ho => ∃ (e : Ev) (s' : List UInt8) (b' : Bool), (tg e s' b' = (st s b).bind pE ∧ s'.length ≤ s.length ∧ (b' = true ∨ s'.length < s.length) ∧ e.fl.length ≤ 1000001 ∧ e.s.length ≤ 1000000) ∧ v = .agg (evE e) ∧ ho = [rdB s' b'] := by
  refine toBE ?_
  refine .of_code tab_ok Try.func115 (by rfl) rfl trivial ?_
  conv => whnf
  refine (intE_s _ _ (by first | omega | assumption | decide | simp)).call [0] (by decide) trivial (And.intro rfl trivial) ?_
  rintro _ _ ⟨u0, u1, u2, rfl, rfl, g3, g4, g5⟩
  conv => whnf
  refine (intE_s _ _ (by first | omega | assumption | decide | simp)).call [0] (by decide) trivial (And.intro rfl trivial) ?_
  rintro _ _ ⟨u10, u11, u12, rfl, rfl, g13, g14, g15⟩
  conv => whnf
  refine (intE_s _ _ (by first | omega | assumption | decide | simp)).call [0] (by decide) trivial (And.intro rfl trivial) ?_
  rintro _ _ ⟨u20, u21, u22, rfl, rfl, g23, g24, g25⟩
  conv => whnf
  refine (intE_s _ _ (by first | omega | assumption | decide | simp)).call [0] (by decide) trivial (And.intro rfl trivial) ?_
  rintro _ _ ⟨u30, u31, u32, rfl, rfl, g33, g34, g35⟩
  conv => whnf
  refine (numE_s _ _ (by first | omega | assumption | decide | simp)).call [0] (by decide) trivial (And.intro rfl trivial) ?_
  rintro _ _ ⟨u40, u41, u42, rfl, rfl, g43, g44, g45⟩
  conv => whnf
  refine (takeE_s _ _ _ (by first | omega | assumption | decide | simp)).call [0] (by decide) (And.intro rfl trivial) (And.intro rfl trivial) ?_
  rintro _ _ ⟨u50, u51, u52, rfl, rfl, g53, g54, g55⟩
  conv => whnf
  refine (numE_s _ _ (by first | omega | assumption | decide | simp)).call [0] (by decide) trivial (And.intro rfl trivial) ?_
  rintro _ _ ⟨u60, u61, u62, rfl, rfl, g63, g64, g65⟩
  conv => whnf
  -- LOOP m=[rdB s b].length F=[SV.ptr 0 0, SV.undef, SV.ptr 1 0, SV.ptr 2 0, SV.int IntKind.i64 ↑u60, SV.ptr 0 0, SV.int IntKind.i64 ↑u0, SV.ptr 0 0, SV.int IntKind.i64 ↑u10, SV.ptr 0 0, SV.int IntKind.i64 ↑u20, SV.ptr 0 0, SV.int IntKind.i64 ↑u30, SV.agg [SV.int IntKind.i64 ↑u0, SV.int IntKind.i64 ↑u10, SV.int IntKind.i64 ↑u20, SV.int IntKind.i64 ↑u30, SV.str [], SV.nils], SV.ptr 0 0, SV.ptr 0 0, SV.int IntKind.i64 ↑u40, SV.str u50, SV.ptr 2 (0 + (4, 9, 1).fst), SV.ptr 0 0, SV.int IntKind.i64 ↑u60, SV.undef, SV.undef, SV.undef, SV.undef, SV.undef, SV.undef, SV.undef, SV.undef, SV.undef, SV.undef, SV.undef, SV.undef, SV.undef, SV.undef, SV.undef, SV.undef, SV.undef, SV.undef, SV.undef] heap=[rdB u61 u62, (1, Blk.fix 74 [SV.int IntKind.i64 0, SV.int IntKind.i64 0, SV.int IntKind.i64 0, SV.int IntKind.i64 0, SV.str [], SV.nils]).snd, (2, Blk.fix 74 [SV.int IntKind.i64 ↑u0, SV.int IntKind.i64 ↑u10, SV.int IntKind.i64 ↑u20, SV.int IntKind.i64 ↑u30, SV.str u50, SV.nils]).snd]
  have hns : tg [u0, u10, u20, u30] u31 u32 = (st s b).bind (pNs 4) := pNs_cons g5 (pNs_cons g15 (pNs_cons g25 (pNs_cons g35 (pNs_nil _ _))))
  obtain ⟨N, hN⟩ : ∃ N, N = u61.length := ⟨_, rfl⟩
  have hNl : N ≤ 1000000 := by omega
  refine LoopG.inv tab_ok 40 (fun x : { x : Nat × List Bool × List UInt8 × Bool // x.1 ≤ 4611686018427387904 ∧ x.2.2.1.length ≤ N ∧ x.2.1.length ≤ 1000001 ∧ (x.2.2.2 = false → x.2.1.length + x.2.2.1.length ≤ N) ∧ (st u61 u62).bind (pF u60) = ((st x.2.2.1 x.2.2.2).bind fun t => (pF x.1 t).bind fun r => some (x.2.1 ++ r.1, r.2)) } => [(0, .ptr 0 0), (2, .ptr 1 0), (3, .ptr 2 0), (4, .int .i64 (x.1.1 : Int))])
    (fun x => [rdB x.1.2.2.1 x.1.2.2.2, .fix 74 [.int .i64 0, .int .i64 0, .int .i64 0, .int .i64 0, .str [], .nils], .fix 74 [.int .i64 (u0 : Int), .int .i64 (u10 : Int), .int .i64 (u20 : Int), .int .i64 (u30 : Int), .str u50, .sl 3], .row 4 1 (x.1.2.1.map blE)]) (fun x => x.1.1) ⟨(u60, [], u61, u62), by omega, by show u61.length ≤ N; omega, by simp, by intro _; show 0 + u61.length ≤ N; omega, pF_nil _ _ _⟩ (.of [some 0, some 1, some 2, none] (by rfl) ?_) ?_
  · conv => whnf
    refine ⟨by rfl, ?_⟩
    conv => whnf
    refine ⟨by rfl, ?_⟩
    conv => whnf
    refine ⟨by rfl, ?_⟩
    conv => whnf
    refine ⟨by rfl, ?_⟩
    conv => whnf
    refine ⟨by rfl, ?_⟩
    conv => whnf
    refine ⟨by rfl, ?_⟩
    conv => whnf
    refine ⟨by rfl, ?_⟩
    conv => whnf
    refine ⟨by rfl, ?_⟩
    conv => whnf
    refine ⟨by rfl, ?_⟩
    conv => whnf
    refine ⟨by rfl, ?_⟩
    conv => whnf
    refine ⟨by rfl, ?_⟩
    conv => whnf
    refine ⟨by rfl, ?_⟩
    conv => whnf
    refine ⟨by rfl, ?_⟩
    conv => whnf
    refine ⟨by rfl, ?_⟩
    conv => whnf
    exact trivial
  · intro x
    obtain ⟨⟨n, fl, t, bb⟩, h1, h2, h3, h4, h5⟩ := x
    have h1 : n ≤ 4611686018427387904 := h1
    have h2 : t.length ≤ N := h2
    have h3 : fl.length ≤ 1000001 := h3
    have h4 : bb = false → fl.length + t.length ≤ N := h4
    have hmr : (fl.map blE).length = fl.length := List.length_map ..
    have hfin : n = 0 ∨ bb = true → tg (mkEv [u0, u10, u20, u30] u50 fl) t bb = (st s b).bind pE ∧ t.length ≤ s.length ∧ (bb = true ∨ t.length < s.length) ∧ fl.length ≤ 1000001 ∧ u50.length ≤ 1000000 := fun hq => by
      have hE := pE_fin hns g45 g55 g65 ((pF_end hq).symm.trans h5.symm)
      refine ⟨hE, by omega, ?_, h3, by omega⟩
      rcases pN_lt g5 with hu | hu
      · cases bb with
        | true => exact .inl rfl
        | false => rw [pE_none (by rw [← g5, hu]; rfl)] at hE; simp at hE
      · right; omega
    have q1 := (rB_lt t bb).2
    have hnx : 0 < n → (st u61 u62).bind (pF u60) = ((st (rB t bb).2.1 (rB t bb).2.2).bind fun t' => (pF (n - 1) t').bind fun r => some ((fl ++ [(rB t bb).1]) ++ r.1, r.2)) := fun hn => by
      cases n with
      | zero => omega
      | succ m => exact h5.trans (pF_step (rB_tg t bb))
    have hlt : bb = false → (rB t bb).2.2 = false → fl.length + 1 + (rB t bb).2.1.length ≤ N := fun hb hb2 => by
      have a1 := (rB_lt t bb).1
      have a3 := h4 hb
      rcases a1 with a1 | a1
      · rw [a1] at hb2; cases hb2
      · omega
    conv => whnf
    refine ⟨fun hh0 => ?_, fun hh0 => ?_⟩
    · simp only [decide_eq_true_eq, decide_eq_false_iff_not] at hh0
      conv => whnf
      refine ⟨fun hh1 => ?_, fun hh1 => ?_⟩
      · simp only [decide_eq_true_eq, decide_eq_false_iff_not] at hh1
        conv => whnf
        refine DrawG.of mixed tab_ok ?_
        conv => whnf
        refine (boolR_s _ _ (by first | omega | (dsimp only at *; omega) | assumption | decide | simp)).calld [0] (by decide) rfl trivial (And.intro rfl trivial) ?_
        conv => whnf
        refine ⟨by simp; omega, ?_⟩
        conv => whnf
        refine ⟨by kernel_rfl, ?_⟩
        conv => whnf
        (dsimp only at *; refine ⟨⟨(n - 1, fl ++ [(rB t bb).1], (rB t bb).2.1, (rB t bb).2.2), by show n - 1 ≤ _; omega, by show (rB t bb).2.1.length ≤ N; omega, by rw [List.length_append]; have := h4 (by simpa using hh1); simp only [List.length_cons, List.length_nil]; omega, fun hq => by rw [List.length_append]; exact hlt (by simpa using hh1) hq, hnx (by omega)⟩, by show n - 1 < n; omega, .of [some 0, some 1, some 2, some 6] (by rfl) ?_⟩)
        conv => whnf
        refine ⟨by (dsimp only at *; exact (w64 _ (by omega) (by omega)).trans (by omega)), ?_⟩
        conv => whnf
        refine ⟨by rfl, ?_⟩
        conv => whnf
        refine ⟨by rfl, ?_⟩
        conv => whnf
        refine ⟨by rfl, ?_⟩
        conv => whnf
        refine ⟨by rfl, ?_⟩
        conv => whnf
        refine ⟨by rfl, ?_⟩
        conv => whnf
        refine ⟨by rfl, ?_⟩
        conv => whnf
        refine ⟨by rfl, ?_⟩
        conv => whnf
        refine ⟨by rfl, ?_⟩
        conv => whnf
        refine ⟨by rfl, ?_⟩
        conv => whnf
        refine ⟨by rfl, ?_⟩
        conv => whnf
        refine ⟨by rfl, ?_⟩
        conv => whnf
        refine ⟨by rfl, ?_⟩
        conv => whnf
        refine ⟨by simp, ?_⟩
        conv => whnf
        exact trivial
      · simp only [decide_eq_true_eq, decide_eq_false_iff_not] at hh1
        conv => whnf
        refine .same ?_
        conv => whnf
        (dsimp only at *; refine ⟨mkEv [u0, u10, u20, u30] u50 fl, t, bb, hfin (.inr (by simpa using hh1)), rfl, _, rfl, .inl rfl⟩)
    · simp only [decide_eq_true_eq, decide_eq_false_iff_not] at hh0
      conv => whnf
      refine .same ?_
      conv => whnf
      (dsimp only at *; refine ⟨mkEv [u0, u10, u20, u30] u50 fl, t, bb, hfin (.inl (by omega)), rfl, _, rfl, .inl rfl⟩)
end Go.Proofs.Ytdommpfnoiemkaa

/- Chapter 27: numbers read, by the reference. -/
namespace Go.Proofs.Ytdommpfnoiemkaa
open Go.Sx
set_option linter.unusedSimpArgs false
set_option linter.unusedVariables false
abbrev rfB (S : List UInt8) (a : Nat) (b : Bool) : Blk := .fix 142 [.str S, .int .i64 (a : Int), .bool b]
theorem toBF {P : Program} {f : FuncId} {args : List SV} {hin : Hp} {α : Type} {T : TypeId} {S : List UInt8} {p : α → Nat → Bool → Prop} {V : α → SV}
    (hs : OSpec P f args hin fun v ho => ∃ (z : α) (a' : Nat) (b' : Bool), p z a' b' ∧ v = V z ∧ ∃ c, ho = [.fix T [.str S, .int .i64 (a' : Int), c]] ∧ BoolIs b' c) : OSpec P f args hin fun v ho => ∃ (z : α) (a' : Nat) (b' : Bool), p z a' b' ∧ v = V z ∧ ho = [.fix T [.str S, .int .i64 (a' : Int), .bool b']] :=
  (OSpec.toB (ι := α × Nat × Bool) (p := fun i => p i.1 i.2.1 i.2.2) (V := fun i => V i.1) (pre := fun i => [.str S, .int .i64 (i.2.1 : Int)]) (b := fun i => i.2.2) (hs.mono fun s h ⟨z, s', b', h1, h2, c, h3, h4⟩ => ⟨(z, s', b'), h1, h2, c, h3, h4⟩)).mono fun s h ⟨i, h1, h2, h3⟩ => ⟨i.1, i.2.1, i.2.2, h1, h2, h3⟩
theorem drop_c {S : List UInt8} {a : Nat} (h : a < S.length) : S.drop a = S.getD a 0 :: S.drop (a + 1) := by
  rw [List.drop_eq_getElem_cons h]; simp [List.getD, List.getElem?_eq_getElem h]
theorem rNk9 {k v : Nat} {s : List UInt8} (h : 8 < k) : (rNk k v s).2.2 = true := by
  cases s with
  | nil => rfl
  | cons x r => rw [rb1 (.inl h)]
theorem rNk8 {v : Nat} {x : UInt8} {r : List UInt8} (h : 64 < x.toNat % 128) : (rNk 8 v (x :: r)).2.2 = true := by
  by_cases h0 : 8 < 8 ∨ 0 < 8 ∧ x.toNat = 0
  · rw [rb1 h0]
  · by_cases h1 : x.toNat < 128
    · rw [rb2 h0 h1 (by omega)]
    · rw [rb4 h0 h1]; exact rNk9 (by omega)
def TgN (Q : Nat × List UInt8 × Bool) (z : Nat) (s : List UInt8) (b : Bool) : Prop := tg z s b = tg Q.1 Q.2.1 Q.2.2
theorem tgn_bad {Q : Nat × List UInt8 × Bool} {z : Nat} {s : List UInt8} (h : Q.2.2 = true) : TgN Q z s true := by unfold TgN; rw [h]; rfl
theorem tgn_ok {Q : Nat × List UInt8 × Bool} {z : Nat} {s : List UInt8} (h : Q = (z, s, false)) : TgN Q z s false := by unfold TgN; rw [h]
theorem tgv {k v : Nat} {x : UInt8} {r : List UInt8} (h : ¬ (8 < k ∨ 0 < k ∧ x.toNat = 0)) (h2 : x.toNat < 128) : TgN (rNk k v (x :: r)) (v + x.toNat % 128 * 128 ^ k) r (decide ((4611686018427387904 : Int) < ((v + x.toNat % 128 * 128 ^ k : Nat) : Int))) := by
  rw [Nat.mod_eq_of_lt h2]
  by_cases h3 : 4611686018427387904 < v + x.toNat * 128 ^ k
  · rw [decide_eq_true (by omega)]; exact tgn_bad (by rw [rb2 h h2 h3])
  · rw [decide_eq_false (by omega)]; exact tgn_ok (rb3 h h2 h3)
theorem rb4m {k v : Nat} {x : UInt8} {r : List UInt8} (h : ¬ (8 < k ∨ 0 < k ∧ x.toNat = 0)) (h2 : ¬ x.toNat < 128) : rNk k v (x :: r) = rNk (k + 1) (v + x.toNat % 128 * 128 ^ k) r := by
  have := x.toNat_lt
  rw [rb4 h h2, show x.toNat % 128 = x.toNat - 128 by omega]
set_option maxRecDepth 100000 in
set_option maxHeartbeats 8000000 in
theorem fnum_s (S : List UInt8) (a0 : Nat) (b : Bool) (ha0 : a0 ≤ S.length) (hS : S.length ≤ 1000000) :
    OSpec Try.prog 110 [.ptr 0 0] [rfB S a0 b] fun v ho => ∃ (z a' : Nat) (b' : Bool), (tg z (S.drop a') b' = (st (S.drop a0) b).bind pN ∧ a0 ≤ a' ∧ a' ≤ S.length ∧ z ≤ 9223372036854775807) ∧ v = .int .i64 (z : Int) ∧ ho = [rfB S a' b'] := by
  refine toBF ?_
  refine .of_code tab_ok Try.func110 (by rfl) rfl trivial ?_
  cases b with
  | true =>
    conv => whnf
    refine LoopG.unr tab_ok 1 ?_
    conv => whnf
    refine both_t rfl ?_
    conv => whnf
    refine both_f rfl ?_
    conv => whnf
    (exact ⟨0, a0, true, ⟨rfl, Nat.le_refl _, ha0, by omega⟩, rfl, _, rfl, .inr (.inl ⟨rfl, rfl⟩)⟩)
  | false =>
    obtain ⟨Q, hQ⟩ : ∃ Q, rNk 0 0 (S.drop a0) = Q := ⟨_, rfl⟩
    have hfin : ∀ (z a' : Nat) (b' : Bool), TgN Q z (S.drop a') b' → tg z (S.drop a') b' = (st (S.drop a0) false).bind pN := fun z a' b' h => by
      have e : (st (S.drop a0) false).bind pN = tg Q.1 Q.2.1 Q.2.2 := by rw [← hQ]; rfl
      rw [e]; exact h
    conv => whnf
    refine LoopG.inv tab_ok 79 (fun x : { x : Nat × Nat × Nat // x.1 ≤ 9 ∧ x.2.1 < 128 ^ x.1 ∧ a0 ≤ x.2.2 ∧ x.2.2 ≤ S.length ∧ Q = rNk x.1 x.2.1 (S.drop x.2.2) } => [(0, .ptr 0 0), (3, .int .i64 (x.1.2.1 : Int)), (4, .int .i64 (IntKind.i64.wrap ((128 ^ x.1.1 : Nat) : Int))), (5, .int .i64 (x.1.1 : Int))])
      (fun x => [rfB S x.1.2.2 false]) (fun x => 10 - x.1.1) ⟨(0, 0, a0), by simp [hQ, ha0]⟩ (.of [some 0] (by rfl) ?_) ?_
    · conv => whnf
      refine ⟨by rfl, ?_⟩
      conv => whnf
      refine ⟨by rfl, ?_⟩
      conv => whnf
      refine ⟨by rfl, ?_⟩
      conv => whnf
      refine ⟨by rfl, ?_⟩
      conv => whnf
      refine ⟨by rfl, ?_⟩
      conv => whnf
      refine ⟨by rfl, ?_⟩
      conv => whnf
      exact trivial
    · intro x
      obtain ⟨⟨k, v, a⟩, hk, hv, hl0, hl, hx⟩ := x
      have hl0 : a0 ≤ a := hl0
      have hl : a ≤ S.length := hl
      have hk : k ≤ 9 := hk
      have hx : Q = rNk k v (S.drop a) := hx
      have hc := (S.getD a 0).toNat_lt
      have wb : IntKind.i64.wrap ((S.getD a 0).toNat : Int) = ((S.getD a 0).toNat : Int) := w64 _ (by omega) (by omega)
      have tm : Int.tmod ((S.getD a 0).toNat : Int) 128 = (((S.getD a 0).toNat % 128 : Nat) : Int) := by rw [Int.tmod_eq_emod_of_nonneg (by omega)]; omega
      have hA : IntKind.i64.wrap ((a : Int) + 1) = ((a + 1 : Nat) : Int) := by rw [w64 _ (by omega) (by omega)]; omega
      have ac : k ≤ 8 → IntKind.i64.wrap ((v : Int) + IntKind.i64.wrap ((((S.getD a 0).toNat % 128 : Nat) : Int) * IntKind.i64.wrap ((128 ^ k : Nat) : Int))) = ((v + (S.getD a 0).toNat % 128 * 128 ^ k : Nat) : Int) := fun h8 => by
        obtain ⟨p1, p2⟩ := p128 k h8
        have hb : ((S.getD a 0).toNat % 128) * 128 ^ k ≤ 127 * 72057594037927936 := Nat.mul_le_mul (by omega) p1
        have hv : v < 128 ^ k := hv
        rw [w64 ((128 ^ k : Nat) : Int) (by omega) (by omega), show (((S.getD a 0).toNat % 128 : Nat) : Int) * ((128 ^ k : Nat) : Int) = (((S.getD a 0).toNat % 128 * 128 ^ k : Nat) : Int) from by push_cast; rfl, w64 (((S.getD a 0).toNat % 128 * 128 ^ k : Nat) : Int) (by omega) (by omega), w64 _ (by omega) (by omega)]
        omega
      have un : k ≤ 8 → IntKind.i64.wrap (IntKind.i64.wrap ((128 ^ k : Nat) : Int) * 128) = IntKind.i64.wrap ((128 ^ (k + 1) : Nat) : Int) := fun h8 => by
        obtain ⟨p1, p2⟩ := p128 k h8
        rw [w64 ((128 ^ k : Nat) : Int) (by omega) (by omega), Nat.pow_succ]
        push_cast; rfl
      have vb : k ≤ 8 → v + (S.getD a 0).toNat % 128 * 128 ^ k ≤ 9223372036854775807 := fun h8 => by
        obtain ⟨p1, p2⟩ := p128 k h8
        have hb : ((S.getD a 0).toNat % 128) * 128 ^ k ≤ 127 * 72057594037927936 := Nat.mul_le_mul (by omega) p1
        have hv : v < 128 ^ k := hv
        omega
      have nv : v + (S.getD a 0).toNat % 128 * 128 ^ k < 128 ^ (k + 1) := nxt_v hv (by omega)
      conv => whnf
      refine ⟨fun hh0 => ?_, fun hh0 => ?_⟩
      · simp only [decide_eq_true_eq, decide_eq_false_iff_not] at hh0
        conv => whnf
        refine both_t rfl ?_
        conv => whnf
        refine DrawG.of mixed tab_ok ?_
        conv => whnf
        refine ⟨by kernel_rfl, ?_⟩
        conv => whnf
        refine ⟨fun hh1 => ?_, fun hh1 => ?_⟩
        · simp only [decide_eq_true_eq, decide_eq_false_iff_not] at hh1
          conv => whnf
          refine .same ?_
          conv => whnf
          (dsimp only at *; simp only [Int.toNat_natCast, wb, tm] at *; exact ⟨0, a, true, ⟨hfin _ _ _ (tgn_bad (by rw [hx, List.drop_eq_nil_of_le (by omega)]; rfl)), hl0, hl, by omega⟩, rfl, _, rfl, .inr (.inl ⟨rfl, rfl⟩)⟩)
        · simp only [decide_eq_true_eq, decide_eq_false_iff_not] at hh1
          conv => whnf
          refine DrawG.of mixed tab_ok ?_
          conv => whnf
          refine ⟨by simp; omega, ?_⟩
          conv => whnf
          refine ⟨by kernel_rfl, ?_⟩
          conv => whnf
          refine ⟨fun hh3 => ?_, fun hh3 => ?_⟩
          · simp only [decide_eq_true_eq, decide_eq_false_iff_not] at hh3
            conv => whnf
            refine ⟨by omega, ?_⟩
            conv => whnf
            refine ⟨fun hh4 => ?_, fun hh4 => ?_⟩
            · simp only [decide_eq_true_eq, decide_eq_false_iff_not] at hh4
              conv => whnf
              refine .same ?_
              conv => whnf
              (dsimp only at *; simp only [Int.toNat_natCast, wb, tm] at *; rw [hA]; exact ⟨0, a + 1, true, ⟨hfin _ _ _ (tgn_bad (by rw [hx, drop_c (by omega), show k = 8 from (by omega)]; exact rNk8 (by omega))), by omega, by omega, by omega⟩, rfl, _, rfl, .inr (.inl ⟨rfl, rfl⟩)⟩)
            · simp only [decide_eq_true_eq, decide_eq_false_iff_not] at hh4
              conv => whnf
              refine ⟨by omega, ?_⟩
              conv => whnf
              refine ⟨fun hh6 => ?_, fun hh6 => ?_⟩
              · simp only [decide_eq_true_eq, decide_eq_false_iff_not] at hh6
                conv => whnf
                refine ⟨fun hh7 => ?_, fun hh7 => ?_⟩
                · simp only [decide_eq_true_eq, decide_eq_false_iff_not] at hh7
                  conv => whnf
                  refine both_t (by simp; omega) ?_
                  conv => whnf
                  refine .same ?_
                  conv => whnf
                  (dsimp only at *; simp only [Int.toNat_natCast, wb, tm] at *; have h8 : k ≤ 8 := (by omega); rw [hA, ac h8]; exact ⟨_, a + 1, true, ⟨hfin _ _ _ (tgn_bad (by rw [hx, drop_c (by omega), rb1 (by omega)])), by omega, by omega, vb h8⟩, rfl, _, rfl, .inr (.inl ⟨rfl, rfl⟩)⟩)
                · simp only [decide_eq_true_eq, decide_eq_false_iff_not] at hh7
                  conv => whnf
                  refine .same ?_
                  conv => whnf
                  (dsimp only at *; simp only [Int.toNat_natCast, wb, tm] at *; have h8 : k ≤ 8 := (by omega); simp only [hA, ac h8]; refine ⟨_, a + 1, _, ⟨hfin _ _ _ ?_, by omega, by omega, vb h8⟩, rfl, _, rfl, .inl rfl⟩; rw [hx, drop_c (by omega)]; exact tgv (by omega) (by omega))
              · simp only [decide_eq_true_eq, decide_eq_false_iff_not] at hh6
                conv => whnf
                (dsimp only at *; simp only [Int.toNat_natCast, wb, tm] at *; have h8 : k ≤ 8 := (by omega); simp only [hA, ac h8, un h8]; refine ⟨⟨(k + 1, v + (S.getD a 0).toNat % 128 * 128 ^ k, a + 1), by show k + 1 ≤ 9; omega, nv, by show a0 ≤ a + 1; omega, by show a + 1 ≤ S.length; omega, by rw [hx, drop_c (by omega)]; exact rb4m (by omega) (by omega)⟩, by show 10 - (k + 1) < 10 - k; omega, .of [some 0] (by rfl) ?_⟩)
                conv => whnf
                refine ⟨by rfl, ?_⟩
                conv => whnf
                refine ⟨by rfl, ?_⟩
                conv => whnf
                refine ⟨by exact (w64 _ (by omega) (by omega)).trans (by simp), ?_⟩
                conv => whnf
                refine ⟨by rfl, ?_⟩
                conv => whnf
                refine ⟨by rfl, ?_⟩
                conv => whnf
                refine ⟨by rfl, ?_⟩
                conv => whnf
                exact trivial
          · simp only [decide_eq_true_eq, decide_eq_false_iff_not] at hh3
            conv => whnf
            refine ⟨by omega, ?_⟩
            conv => whnf
            refine ⟨fun hh11 => ?_, fun hh11 => ?_⟩
            · simp only [decide_eq_true_eq, decide_eq_false_iff_not] at hh11
              conv => whnf
              refine ⟨fun hh12 => ?_, fun hh12 => ?_⟩
              · simp only [decide_eq_true_eq, decide_eq_false_iff_not] at hh12
                conv => whnf
                refine ⟨fun hh13 => ?_, fun hh13 => ?_⟩
                · simp only [decide_eq_true_eq, decide_eq_false_iff_not] at hh13
                  conv => whnf
                  refine .same ?_
                  conv => whnf
                  (dsimp only at *; simp only [Int.toNat_natCast, wb, tm] at *; have h8 : k ≤ 8 := (by omega); rw [hA, ac h8]; exact ⟨_, a + 1, true, ⟨hfin _ _ _ (tgn_bad (by rw [hx, drop_c (by omega), rb1 (by omega)])), by omega, by omega, vb h8⟩, rfl, _, rfl, .inr (.inl ⟨rfl, rfl⟩)⟩)
                · simp only [decide_eq_true_eq, decide_eq_false_iff_not] at hh13
                  conv => whnf
                  refine .same ?_
                  conv => whnf
                  (dsimp only at *; simp only [Int.toNat_natCast, wb, tm] at *; have h8 : k ≤ 8 := (by omega); simp only [hA, ac h8]; refine ⟨_, a + 1, _, ⟨hfin _ _ _ ?_, by omega, by omega, vb h8⟩, rfl, _, rfl, .inl rfl⟩; rw [hx, drop_c (by omega)]; exact tgv (by omega) (by omega))
              · simp only [decide_eq_true_eq, decide_eq_false_iff_not] at hh12
                conv => whnf
                refine .same ?_
                conv => whnf
                (dsimp only at *; simp only [Int.toNat_natCast, wb, tm] at *; have h8 : k ≤ 8 := (by omega); simp only [hA, ac h8]; refine ⟨_, a + 1, _, ⟨hfin _ _ _ ?_, by omega, by omega, vb h8⟩, rfl, _, rfl, .inl rfl⟩; rw [hx, drop_c (by omega)]; exact tgv (by omega) (by omega))
            · simp only [decide_eq_true_eq, decide_eq_false_iff_not] at hh11
              conv => whnf
              (dsimp only at *; simp only [Int.toNat_natCast, wb, tm] at *; have h8 : k ≤ 8 := (by omega); simp only [hA, ac h8, un h8]; refine ⟨⟨(k + 1, v + (S.getD a 0).toNat % 128 * 128 ^ k, a + 1), by show k + 1 ≤ 9; omega, nv, by show a0 ≤ a + 1; omega, by show a + 1 ≤ S.length; omega, by rw [hx, drop_c (by omega)]; exact rb4m (by omega) (by omega)⟩, by show 10 - (k + 1) < 10 - k; omega, .of [some 0] (by rfl) ?_⟩)
              conv => whnf
              refine ⟨by rfl, ?_⟩
              conv => whnf
              refine ⟨by rfl, ?_⟩
              conv => whnf
              refine ⟨by exact (w64 _ (by omega) (by omega)).trans (by simp), ?_⟩
              conv => whnf
              refine ⟨by rfl, ?_⟩
              conv => whnf
              refine ⟨by rfl, ?_⟩
              conv => whnf
              refine ⟨by rfl, ?_⟩
              conv => whnf
              exact trivial
      · simp only [decide_eq_true_eq, decide_eq_false_iff_not] at hh0
        conv => whnf
        refine .same ?_
        conv => whnf
        (dsimp only at *; simp only [Int.toNat_natCast, wb, tm] at *; exact ⟨0, a, true, ⟨hfin _ _ _ (tgn_bad (by rw [hx]; exact rNk9 (by omega))), hl0, hl, by omega⟩, rfl, _, rfl, .inr (.inl ⟨rfl, rfl⟩)⟩)
end Go.Proofs.Ytdommpfnoiemkaa

/- Chapter 27: texts and flags read, by the reference. -/
namespace Go.Proofs.Ytdommpfnoiemkaa
open Go.Sx
set_option linter.unusedSimpArgs false
set_option linter.unusedVariables false
def pX (s : List UInt8) : Option (List UInt8 × List UInt8) := (pN s).bind fun p => pT p.1 p.2
theorem pX_fin {n : Nat} {u : List UInt8} {s s1 s2 : List UInt8} {b b1 b2 : Bool} (h1 : tg n s1 b1 = (st s b).bind pN) (h2 : tg u s2 b2 = (st s1 b1).bind (pT n)) : tg u s2 b2 = (st s b).bind pX :=
  h2.trans (chain h1 fun n t => pT n t).symm
theorem ftext_s (S : List UInt8) (a0 : Nat) (b : Bool) (ha0 : a0 ≤ S.length) (hS : S.length ≤ 1000000) :
    OSpec Try.prog 111 [.ptr 0 0] [rfB S a0 b] fun v ho => ∃ (z : List UInt8) (a' : Nat) (b' : Bool), (tg z (S.drop a') b' = (st (S.drop a0) b).bind pX ∧ a0 ≤ a' ∧ a' ≤ S.length ∧ z.length ≤ S.length) ∧ v = .str z ∧ ho = [rfB S a' b'] := by
  refine toBF ?_
  refine .of_code tab_ok Try.func111 (by rfl) rfl trivial ?_
  conv => whnf
  refine (fnum_s S a0 b ha0 hS).call [0] (by decide) trivial (And.intro rfl trivial) ?_
  rintro _ _ ⟨n, a1, b1, ⟨g1, g2, g3, g4⟩, rfl, rfl⟩
  have hd : (S.drop a1).length = S.length - a1 := List.length_drop ..
  have hw : IntKind.i64.wrap ((S.length : Int) - (a1 : Int)) = ((S.length - a1 : Nat) : Int) := by rw [w64 _ (by omega) (by omega)]; omega
  have hbad : b1 = true ∨ S.length - a1 < n → tg ([] : List UInt8) (S.drop a1) true = (st (S.drop a0) b).bind pX := fun h => pX_fin g1 (by
    cases b1 with
    | true => rfl
    | false =>
      rcases h with h | h
      · cases h
      · simp only [st_f, Option.bind_some, pT, hd, if_pos h]; rfl)
  have hok : b1 = false → n ≤ S.length - a1 → tg ((S.drop a1).take n) (S.drop (a1 + n)) false = (st (S.drop a0) b).bind pX := fun h h2 => pX_fin g1 (by
    rw [h]
    simp only [st_f, Option.bind_some, pT, hd, if_neg (Nat.not_lt.2 h2), List.drop_drop]; rfl)
  have e3 : n ≤ S.length - a1 → IntKind.i64.wrap ((a1 : Int) + (n : Int)) = ((a1 + n : Nat) : Int) := fun h => by rw [w64 _ (by omega) (by omega)]; omega
  have e4 : (S.take (a1 + n)).drop a1 = (S.drop a1).take n := by rw [List.drop_take, Nat.add_sub_cancel_left]
  conv => whnf
  refine DrawG.of mixed tab_ok ?_
  conv => whnf
  refine ⟨fun hh0 => ?_, fun hh0 => ?_⟩
  · skip
    conv => whnf
    refine ⟨by kernel_rfl, ?_⟩
    conv => whnf
    (exact ⟨[], a1, true, ⟨hbad (.inl ‹_›), g2, g3, by simp⟩, rfl, _, rfl, .inr (.inl ⟨rfl, rfl⟩)⟩)
  · skip
    conv => whnf
    refine ⟨by kernel_rfl, ?_⟩
    conv => whnf
    refine ⟨fun hh2 => ?_, fun hh2 => ?_⟩
    · simp only [decide_eq_true_eq, decide_eq_false_iff_not] at hh2
      conv => whnf
      (rw [hw] at hh2; exact ⟨[], a1, true, ⟨hbad (.inr (by omega)), g2, g3, by simp⟩, rfl, _, rfl, .inr (.inl ⟨rfl, rfl⟩)⟩)
    · simp only [decide_eq_true_eq, decide_eq_false_iff_not] at hh2
      conv => whnf
      refine DrawG.of mixed tab_ok ?_
      conv => whnf
      refine ⟨by omega, ?_⟩
      conv => whnf
      refine ⟨by kernel_rfl, ?_⟩
      conv => whnf
      (rw [hw] at hh2; rw [e3 (by omega), Int.toNat_natCast, Int.toNat_natCast, e4]; exact ⟨_, a1 + n, false, ⟨hok ‹_› (by omega), by omega, by omega, by rw [List.length_take, List.length_drop]; omega⟩, rfl, _, rfl, .inl (by rw [‹b1 = false›])⟩)
def okB (x : UInt8) : Bool := decide (x.toNat ≤ 1)
def bitB (x : UInt8) : Bool := decide (x.toNat = 1)
theorem pF_eq : ∀ (n : Nat) (s : List UInt8), pF n s = if s.length < n ∨ (s.take n).all okB = false then none else some ((s.take n).map bitB, s.drop n) := by
  intro n
  induction n with
  | zero => intro s; simp [pF]
  | succ n ih =>
    intro s
    cases s with
    | nil => simp [pF, pB, rB]
    | cons x r =>
      by_cases h : 1 < x.toNat
      · have e : pB (x :: r) = none := by
          unfold pB
          rw [show rB (x :: r) false = (false, r, true) from by show (if 1 < x.toNat then _ else _) = _; rw [if_pos h]]
          rfl
        have e2 : okB x = false := decide_eq_false (by omega)
        simp [pF, e, e2]
      · have e : pB (x :: r) = some (bitB x, r) := by
          unfold pB
          rw [show rB (x :: r) false = (decide (x.toNat = 1), r, false) from by show (if 1 < x.toNat then _ else _) = _; rw [if_neg h]]
          rfl
        have e2 : okB x = true := decide_eq_true (by omega)
        simp only [pF, e, Option.bind_some, ih, List.length_cons, List.take_succ_cons, List.all_cons, e2, Bool.true_and, List.map_cons, List.drop_succ_cons, Nat.add_lt_add_iff_right]
        split <;> rfl
def pG (s : List UInt8) : Option (List Bool × List UInt8) := (pN s).bind fun w => pF w.1 w.2
theorem pG_eq (s : List UInt8) : pG s = (pX s).bind fun u => if u.1.all okB = true then some (u.1.map bitB, u.2) else none := by
  unfold pG pX
  cases pN s with
  | none => rfl
  | some p =>
    simp only [Option.bind_some, pF_eq, pT]
    by_cases h : p.2.length < p.1
    · simp [h]
    · by_cases h2 : (p.2.take p.1).all okB = true
      · have h3 : ¬ (p.2.length < p.1 ∨ (p.2.take p.1).all okB = false) := by rw [h2]; simp [h]
        rw [if_neg h3, if_neg h]; simp only [Option.bind_some]; rw [if_pos h2]
      · have h3 : (p.2.length < p.1 ∨ (p.2.take p.1).all okB = false) := .inr (by simpa using h2)
        rw [if_pos h3, if_neg h]; simp only [Option.bind_some]; rw [if_neg h2]
theorem pG_fin {z : List UInt8} {s s1 : List UInt8} {b b1 : Bool} (h : tg z s1 b1 = (st s b).bind pX) : tg (z.map bitB) s1 (b1 || !(z.all okB)) = (st s b).bind pG := by
  have e : (st s b).bind pG = ((st s b).bind pX).bind fun u => if u.1.all okB = true then some (u.1.map bitB, u.2) else none := by
    cases b with
    | true => rfl
    | false => exact pG_eq s
  rw [e, ← h]
  cases b1 with
  | true => rfl
  | false =>
    simp only [tg_f, Option.bind_some, Bool.false_or]
    cases z.all okB <;> rfl
theorem z_get {z : List UInt8} {i : Nat} (h : i < z.length) : z.take (i + 1) = z.take i ++ [z.getD i 0] := by
  rw [List.take_add_one, List.getElem?_eq_getElem h]; simp [List.getD, List.getElem?_eq_getElem h]
set_option maxRecDepth 100000 in
set_option maxHeartbeats 8000000 in
theorem fflags_s (S : List UInt8) (a0 : Nat) (b : Bool) (ha0 : a0 ≤ S.length) (hS : S.length ≤ 1000000) :
    OSpec Try.prog 112 [.ptr 0 0] [rfB S a0 b] fun v ho => ∃ (z : List Bool) (a' : Nat) (b' : Bool), (tg z (S.drop a') b' = (st (S.drop a0) b).bind pG ∧ a0 ≤ a' ∧ a' ≤ S.length ∧ z.length ≤ S.length) ∧ v = .rs 1 (z.map blE) ∧ ho = [rfB S a' b'] := by
  refine toBF ?_
  refine .of_code tab_ok Try.func112 (by rfl) rfl trivial ?_
  conv => whnf
  refine (ftext_s S a0 b ha0 hS).call [0] (by decide) trivial (And.intro rfl trivial) ?_
  rintro _ _ ⟨z, a1, b1, ⟨g1, g2, g3, g4⟩, rfl, rfl⟩
  have hf := pG_fin g1
  conv => whnf
  refine LoopG.inv tab_ok 35 (fun x : { i : Nat // i ≤ z.length } => [(0, .ptr 0 0), (3, .str z), (4, .sl 1), (5, .int .i64 (x.1 : Int))])
    (fun x => [rfB S a1 (b1 || !((z.take x.1).all okB)), .row 4 1 (((z.take x.1).map bitB).map blE)]) (fun x => z.length - x.1) ⟨0, by omega⟩ (.of [some 0, none] (by rfl) ?_) ?_
  · conv => whnf
    refine ⟨by rfl, ?_⟩
    conv => whnf
    refine ⟨by rfl, ?_⟩
    conv => whnf
    refine ⟨by rfl, ?_⟩
    conv => whnf
    refine ⟨by rfl, ?_⟩
    conv => whnf
    refine ⟨by simp, ?_⟩
    conv => whnf
    refine ⟨by rfl, ?_⟩
    conv => whnf
    exact trivial
  · intro x
    have hx := x.2
    have hL : (((z.take x.1).map bitB).map blE).length ≤ z.length := by simp only [List.length_map, List.length_take]; omega
    conv => whnf
    refine ⟨fun hb => ?_, fun hb => ?_⟩
    · have hb : x.1 < z.length := by simp only [decide_eq_true_eq] at hb; omega
      have hg := z_get hb
      have hrow : ((z.take x.1).map bitB).map blE ++ [[.bool (decide (((z.getD x.1 0).toNat : Int) = 1))]] = ((z.take (x.1 + 1)).map bitB).map blE := by
        rw [hg, List.map_append, List.map_append]
        have e : decide (((z.getD x.1 0).toNat : Int) = 1) = bitB (z.getD x.1 0) := decide_eq_decide.2 (by omega)
        rw [e]; rfl
      have h1 : (b1 || !((z.take x.1).all okB)) = true → (b1 || !((z.take (x.1 + 1)).all okB)) = true := fun h => by
        rw [hg, List.all_append]
        cases b1 with
        | true => rfl
        | false =>
          have : (z.take x.1).all okB = false := by simpa using h
          rw [this]; rfl
      have h2 : (b1 || !((z.take x.1).all okB)) = false → (b1 || !((z.take (x.1 + 1)).all okB)) = decide ((1 : Int) < ((z.getD x.1 0).toNat : Int)) := fun h => by
        rw [hg, List.all_append]
        cases b1 with
        | true => simp at h
        | false =>
          have : (z.take x.1).all okB = true := by simpa using h
          rw [this]
          simp only [Bool.false_or, Bool.true_and, List.all_cons, List.all_nil, Bool.and_true, okB]
          by_cases hq : (z.getD x.1 0).toNat ≤ 1
          · rw [decide_eq_true hq, decide_eq_false (by omega)]; rfl
          · rw [decide_eq_false hq, decide_eq_true (by omega)]; rfl
      conv => whnf
      refine ⟨fun hh0 => ?_, fun hh0 => ?_⟩
      · skip
        conv => whnf
        refine ⟨by omega, ?_⟩
        conv => whnf
        refine ⟨by simp; omega, ?_⟩
        conv => whnf
        (refine ⟨⟨x.1 + 1, by omega⟩, by show z.length - (x.1 + 1) < z.length - x.1; omega, .of [some 0, some 3] (by rfl) ?_⟩)
        conv => whnf
        refine ⟨by rfl, ?_⟩
        conv => whnf
        refine ⟨by exact (w64 _ (by omega) (by omega)).trans (by simp), ?_⟩
        conv => whnf
        refine ⟨by rfl, ?_⟩
        conv => whnf
        refine ⟨by rfl, ?_⟩
        conv => whnf
        refine ⟨by (exact (h1 ‹_›).symm), ?_⟩
        conv => whnf
        refine ⟨by (exact hrow), ?_⟩
        conv => whnf
        exact trivial
      · skip
        conv => whnf
        refine ⟨by omega, ?_⟩
        conv => whnf
        refine ⟨by omega, ?_⟩
        conv => whnf
        refine ⟨by simp; omega, ?_⟩
        conv => whnf
        (refine ⟨⟨x.1 + 1, by omega⟩, by show z.length - (x.1 + 1) < z.length - x.1; omega, .of [some 0, some 3] (by rfl) ?_⟩)
        conv => whnf
        refine ⟨by rfl, ?_⟩
        conv => whnf
        refine ⟨by exact (w64 _ (by omega) (by omega)).trans (by simp), ?_⟩
        conv => whnf
        refine ⟨by rfl, ?_⟩
        conv => whnf
        refine ⟨by rfl, ?_⟩
        conv => whnf
        refine ⟨by (exact (h2 ‹_›).symm), ?_⟩
        conv => whnf
        refine ⟨by (exact hrow), ?_⟩
        conv => whnf
        exact trivial
    · have hb : z.length ≤ x.1 := by simp only [decide_eq_false_iff_not] at hb; omega
      have et : z.take x.1 = z := List.take_of_length_le hb
      conv => whnf
      refine .same ?_
      conv => whnf
      (rw [et]; exact ⟨z.map bitB, a1, _, ⟨hf, g2, g3, by rw [List.length_map]; exact g4⟩, rfl, _, rfl, .inl rfl⟩)
end Go.Proofs.Ytdommpfnoiemkaa

/- Chapter 27: configurations read, by the reference. -/
namespace Go.Proofs.Ytdommpfnoiemkaa
open Go.Sx
set_option linter.unusedSimpArgs false
set_option linter.unusedVariables false
theorem fnumE_s (S : List UInt8) (a0 : Nat) (b : Bool) (ha0 : a0 ≤ S.length) (hS : S.length ≤ 1000000) :
    OSpec Try.prog 110 [.ptr 0 0] [rfB S a0 b] fun v ho => ∃ (z a' : Nat) (b' : Bool), v = .int .i64 (z : Int) ∧ ho = [rfB S a' b'] ∧ tg z (S.drop a') b' = (st (S.drop a0) b).bind pN ∧ a0 ≤ a' ∧ a' ≤ S.length ∧ z ≤ 9223372036854775807 :=
  (fnum_s S a0 b ha0 hS).mono fun v ho ⟨z, a', b', ⟨h1, h2, h3, h4⟩, h5, h6⟩ => ⟨z, a', b', h5, h6, h1, h2, h3, h4⟩
set_option maxRecDepth 100000 in
set_option maxHeartbeats 8000000 in
theorem fconfig_s (S : List UInt8) (a0 : Nat) (b : Bool) (ha0 : a0 ≤ S.length) (hS : S.length ≤ 1000000) :
    OSpec Try.prog 109 [.ptr 0 0] [rfB S a0 b] fun v ho => ∃ (c : Cf) (a' : Nat) (b' : Bool), (tg c (S.drop a') b' = (st (S.drop a0) b).bind pC ∧ a' ≤ S.length ∧ c.rs.length ≤ 1000001) ∧ v = cfE c ∧ ho = [rfB S a' b'] := by
  refine toBF ?_
  refine .of_code tab_ok Try.func109 (by rfl) rfl trivial ?_
  conv => whnf
  refine (fnumE_s _ _ _ (by first | omega | assumption | decide | simp) (by first | omega | assumption | decide | simp)).call [0] (by decide) trivial (And.intro rfl trivial) ?_
  rintro _ _ ⟨u0, u1, u2, rfl, rfl, g3, g4, g5, g6⟩
  conv => whnf
  refine (fnumE_s _ _ _ (by first | omega | assumption | decide | simp) (by first | omega | assumption | decide | simp)).call [0] (by decide) trivial (And.intro rfl trivial) ?_
  rintro _ _ ⟨u10, u11, u12, rfl, rfl, g13, g14, g15, g16⟩
  conv => whnf
  refine (fnumE_s _ _ _ (by first | omega | assumption | decide | simp) (by first | omega | assumption | decide | simp)).call [0] (by decide) trivial (And.intro rfl trivial) ?_
  rintro _ _ ⟨u20, u21, u22, rfl, rfl, g23, g24, g25, g26⟩
  conv => whnf
  refine (fnumE_s _ _ _ (by first | omega | assumption | decide | simp) (by first | omega | assumption | decide | simp)).call [0] (by decide) trivial (And.intro rfl trivial) ?_
  rintro _ _ ⟨u30, u31, u32, rfl, rfl, g33, g34, g35, g36⟩
  conv => whnf
  refine (fnumE_s _ _ _ (by first | omega | assumption | decide | simp) (by first | omega | assumption | decide | simp)).call [0] (by decide) trivial (And.intro rfl trivial) ?_
  rintro _ _ ⟨u40, u41, u42, rfl, rfl, g43, g44, g45, g46⟩
  conv => whnf
  refine (fnumE_s _ _ _ (by first | omega | assumption | decide | simp) (by first | omega | assumption | decide | simp)).call [0] (by decide) trivial (And.intro rfl trivial) ?_
  rintro _ _ ⟨u50, u51, u52, rfl, rfl, g53, g54, g55, g56⟩
  conv => whnf
  refine (fnumE_s _ _ _ (by first | omega | assumption | decide | simp) (by first | omega | assumption | decide | simp)).call [0] (by decide) trivial (And.intro rfl trivial) ?_
  rintro _ _ ⟨u60, u61, u62, rfl, rfl, g63, g64, g65, g66⟩
  conv => whnf
  refine (fnumE_s _ _ _ (by first | omega | assumption | decide | simp) (by first | omega | assumption | decide | simp)).call [0] (by decide) trivial (And.intro rfl trivial) ?_
  rintro _ _ ⟨u70, u71, u72, rfl, rfl, g73, g74, g75, g76⟩
  conv => whnf
  refine (fnumE_s _ _ _ (by first | omega | assumption | decide | simp) (by first | omega | assumption | decide | simp)).call [0] (by decide) trivial (And.intro rfl trivial) ?_
  rintro _ _ ⟨u80, u81, u82, rfl, rfl, g83, g84, g85, g86⟩
  conv => whnf
  refine (fnumE_s _ _ _ (by first | omega | assumption | decide | simp) (by first | omega | assumption | decide | simp)).call [0] (by decide) trivial (And.intro rfl trivial) ?_
  rintro _ _ ⟨u90, u91, u92, rfl, rfl, g93, g94, g95, g96⟩
  conv => whnf
  refine (fnumE_s _ _ _ (by first | omega | assumption | decide | simp) (by first | omega | assumption | decide | simp)).call [0] (by decide) trivial (And.intro rfl trivial) ?_
  rintro _ _ ⟨u100, u101, u102, rfl, rfl, g103, g104, g105, g106⟩
  conv => whnf
  refine (fnumE_s _ _ _ (by first | omega | assumption | decide | simp) (by first | omega | assumption | decide | simp)).call [0] (by decide) trivial (And.intro rfl trivial) ?_
  rintro _ _ ⟨u110, u111, u112, rfl, rfl, g113, g114, g115, g116⟩
  conv => whnf
  refine (fnumE_s _ _ _ (by first | omega | assumption | decide | simp) (by first | omega | assumption | decide | simp)).call [0] (by decide) trivial (And.intro rfl trivial) ?_
  rintro _ _ ⟨u120, u121, u122, rfl, rfl, g123, g124, g125, g126⟩
  conv => whnf
  refine (fnumE_s _ _ _ (by first | omega | assumption | decide | simp) (by first | omega | assumption | decide | simp)).call [0] (by decide) trivial (And.intro rfl trivial) ?_
  rintro _ _ ⟨u130, u131, u132, rfl, rfl, g133, g134, g135, g136⟩
  conv => whnf
  refine (fnumE_s _ _ _ (by first | omega | assumption | decide | simp) (by first | omega | assumption | decide | simp)).call [0] (by decide) trivial (And.intro rfl trivial) ?_
  rintro _ _ ⟨u140, u141, u142, rfl, rfl, g143, g144, g145, g146⟩
  conv => whnf
  -- LOOP m=[rfB S a0 b].length F=[SV.ptr 0 0, SV.undef, SV.ptr 1 0, SV.ptr 2 0, SV.int IntKind.i64 ↑u140, SV.int IntKind.i64 0, SV.undef, SV.ptr 0 0, SV.int IntKind.i64 ↑u0, SV.ptr 0 0, SV.int IntKind.i64 ↑u10, SV.ptr 0 0, SV.int IntKind.i64 ↑u20, SV.ptr 2 (0 + (0, 3, 1).fst), SV.ptr 2 (0 + (1, 64, 2).fst), SV.ptr 2 (0 + (1, 64, 2).fst + (0, 2, 1).fst), SV.ptr 2 (0 + (1, 64, 2).fst), SV.ptr 2 (0 + (1, 64, 2).fst + (1, 2, 1).fst), SV.ptr 0 0, SV.int IntKind.i64 ↑u30, SV.ptr 0 0, SV.int IntKind.i64 ↑u40, SV.ptr 0 0, SV.int IntKind.i64 ↑u50, SV.ptr 2 (0 + (3, 66, 3).fst), SV.ptr 2 (0 + (3, 66, 3).fst + (0, 3, 1).fst), SV.ptr 2 (0 + (3, 66, 3).fst), SV.ptr 2 (0 + (3, 66, 3).fst + (1, 3, 1).fst), SV.ptr 2 (0 + (3, 66, 3).fst), SV.ptr 2 (0 + (3, 66, 3).fst + (2, 3, 1).fst), SV.ptr 0 0, SV.int IntKind.i64 ↑u60, SV.ptr 0 0, SV.int IntKind.i64 ↑u70, SV.ptr 0 0, SV.int IntKind.i64 ↑u80, SV.ptr 2 (0 + (6, 68, 3).fst), SV.ptr 2 (0 + (6, 68, 3).fst + (0, 3, 1).fst), SV.ptr 2 (0 + (6, 68, 3).fst), SV.ptr 2 (0 + (6, 68, 3).fst + (1, 3, 1).fst), SV.ptr 2 (0 + (6, 68, 3).fst), SV.ptr 2 (0 + (6, 68, 3).fst + (2, 2, 1).fst), SV.ptr 0 0, SV.int IntKind.i64 ↑u90, SV.ptr 0 0, SV.int IntKind.i64 ↑u100, SV.ptr 0 0, SV.int IntKind.i64 ↑u110, SV.ptr 0 0, SV.int IntKind.i64 ↑u120, SV.ptr 0 0, ⋯] heap=[rfB S u141 u142, (1, Blk.fix 71 [SV.int IntKind.i64 0, SV.int IntKind.i64 0, SV.int IntKind.i64 0, SV.int IntKind.i64 0, SV.int IntKind.i64 0, SV.int IntKind.i64 0, SV.int IntKind.i64 0, SV.int IntKind.i64 0, SV.int IntKind.i64 0, SV.int IntKind.i64 0, SV.int IntKind.i64 0, SV.int IntKind.i64 0, SV.int IntKind.i64 0, SV.int IntKind.i64 0, SV.nils]).snd, (2, Blk.fix 71 [SV.int IntKind.i64 ↑u0, SV.int IntKind.i64 ↑u10, SV.int IntKind.i64 ↑u20, SV.int IntKind.i64 ↑u30, SV.int IntKind.i64 ↑u40, SV.int IntKind.i64 ↑u50, SV.int IntKind.i64 ↑u60, SV.int IntKind.i64 ↑u70, SV.int IntKind.i64 ↑u80, SV.int IntKind.i64 ↑u90, SV.int IntKind.i64 ↑u100, SV.int IntKind.i64 ↑u110, SV.int IntKind.i64 ↑u120, SV.int IntKind.i64 ↑u130, SV.nils]).snd]
  have hns : tg [u0, u10, u20, u30, u40, u50, u60, u70, u80, u90, u100, u110, u120, u130] (S.drop u131) u132 = (st (S.drop a0) b).bind (pNs 14) := pNs_cons g3 (pNs_cons g13 (pNs_cons g23 (pNs_cons g33 (pNs_cons g43 (pNs_cons g53 (pNs_cons g63 (pNs_cons g73 (pNs_cons g83 (pNs_cons g93 (pNs_cons g103 (pNs_cons g113 (pNs_cons g123 (pNs_cons g133 (pNs_nil _ _))))))))))))))
  obtain ⟨N, hN⟩ : ∃ N, N = S.length - u141 := ⟨_, rfl⟩
  have hNl : N ≤ 1000000 := by omega
  refine LoopG.inv tab_ok 84 (fun x : { x : Nat × List (Int × Int) × Nat × Bool // x.1 ≤ u140 ∧ x.2.2.1 ≤ S.length ∧ x.2.1.length ≤ 1000001 ∧ (x.2.2.2 = false → x.2.1.length + (S.length - x.2.2.1) ≤ N) ∧ (st (S.drop u141) u142).bind (pR u140) = ((st (S.drop x.2.2.1) x.2.2.2).bind fun t => (pR (u140 - x.1) t).bind fun r => some (x.2.1 ++ r.1, r.2)) } => [(0, .ptr 0 0), (2, .ptr 1 0), (3, .ptr 2 0), (4, .int .i64 (u140 : Int)), (5, .int .i64 (x.1.1 : Int))])
    (fun x => [rfB S x.1.2.2.1 x.1.2.2.2, .fix 71 [.int .i64 0, .int .i64 0, .int .i64 0, .int .i64 0, .int .i64 0, .int .i64 0, .int .i64 0, .int .i64 0, .int .i64 0, .int .i64 0, .int .i64 0, .int .i64 0, .int .i64 0, .int .i64 0, .nils], .fix 71 [.int .i64 (u0 : Int), .int .i64 (u10 : Int), .int .i64 (u20 : Int), .int .i64 (u30 : Int), .int .i64 (u40 : Int), .int .i64 (u50 : Int), .int .i64 (u60 : Int), .int .i64 (u70 : Int), .int .i64 (u80 : Int), .int .i64 (u90 : Int), .int .i64 (u100 : Int), .int .i64 (u110 : Int), .int .i64 (u120 : Int), .int .i64 (u130 : Int), .sl 3], .row 115 2 (x.1.2.1.map rtE)]) (fun x => u140 - x.1.1) ⟨(0, [], u141, u142), by omega, by show u141 ≤ S.length; omega, by simp, by intro _; show 0 + (S.length - u141) ≤ N; omega, pR_nil _ _ _⟩ (.of [some 0, some 1, some 2, none] (by rfl) ?_) ?_
  · conv => whnf
    refine ⟨by rfl, ?_⟩
    conv => whnf
    refine ⟨by rfl, ?_⟩
    conv => whnf
    refine ⟨by rfl, ?_⟩
    conv => whnf
    refine ⟨by rfl, ?_⟩
    conv => whnf
    refine ⟨by rfl, ?_⟩
    conv => whnf
    refine ⟨by rfl, ?_⟩
    conv => whnf
    refine ⟨by rfl, ?_⟩
    conv => whnf
    refine ⟨by rfl, ?_⟩
    conv => whnf
    refine ⟨by rfl, ?_⟩
    conv => whnf
    refine ⟨by rfl, ?_⟩
    conv => whnf
    refine ⟨by rfl, ?_⟩
    conv => whnf
    refine ⟨by rfl, ?_⟩
    conv => whnf
    refine ⟨by rfl, ?_⟩
    conv => whnf
    refine ⟨by rfl, ?_⟩
    conv => whnf
    refine ⟨by rfl, ?_⟩
    conv => whnf
    refine ⟨by rfl, ?_⟩
    conv => whnf
    refine ⟨by rfl, ?_⟩
    conv => whnf
    refine ⟨by rfl, ?_⟩
    conv => whnf
    refine ⟨by rfl, ?_⟩
    conv => whnf
    refine ⟨by rfl, ?_⟩
    conv => whnf
    refine ⟨by rfl, ?_⟩
    conv => whnf
    refine ⟨by rfl, ?_⟩
    conv => whnf
    refine ⟨by rfl, ?_⟩
    conv => whnf
    refine ⟨by rfl, ?_⟩
    conv => whnf
    refine ⟨by rfl, ?_⟩
    conv => whnf
    refine ⟨by rfl, ?_⟩
    conv => whnf
    refine ⟨by rfl, ?_⟩
    conv => whnf
    refine ⟨by rfl, ?_⟩
    conv => whnf
    refine ⟨by rfl, ?_⟩
    conv => whnf
    refine ⟨by rfl, ?_⟩
    conv => whnf
    refine ⟨by rfl, ?_⟩
    conv => whnf
    refine ⟨by rfl, ?_⟩
    conv => whnf
    refine ⟨by rfl, ?_⟩
    conv => whnf
    refine ⟨by rfl, ?_⟩
    conv => whnf
    exact trivial
  · intro x
    obtain ⟨⟨i, rs, a, bb⟩, h1, h2, h3, h4, h5⟩ := x
    have h1 : i ≤ u140 := h1
    have h2 : a ≤ S.length := h2
    have h3 : rs.length ≤ 1000001 := h3
    have h4 : bb = false → rs.length + (S.length - a) ≤ N := h4
    have hmr : (rs.map rtE).length = rs.length := List.length_map ..
    have hfin : u140 - i = 0 ∨ bb = true → tg (mkCf [u0, u10, u20, u30, u40, u50, u60, u70, u80, u90, u100, u110, u120, u130] rs) (S.drop a) bb = (st (S.drop a0) b).bind pC := fun hq => pC_fin hns g143 ((pR_end hq).symm.trans h5.symm)
    have hnx : ∀ {z1 z2 a1 a2 : Nat} {b1 b2 : Bool}, i < u140 → tg z1 (S.drop a1) b1 = (st (S.drop a) bb).bind pN → tg z2 (S.drop a2) b2 = (st (S.drop a1) b1).bind pN → (st (S.drop u141) u142).bind (pR u140) = ((st (S.drop a2) b2).bind fun t' => (pR (u140 - (i + 1)) t').bind fun r => some ((rs ++ [((z1 : Int), (z2 : Int))]) ++ r.1, r.2)) := fun {z1 z2 a1 a2 b1 b2} hn e1 e2 => by
      obtain ⟨m, hm⟩ : ∃ m, u140 - i = m + 1 := ⟨u140 - i - 1, by omega⟩
      have hm2 : u140 - (i + 1) = m := by omega
      rw [hm2]
      exact h5.trans (by dsimp only; rw [hm]; exact pR_step e1 e2)
    have hlt : ∀ {z2 a1 a2 : Nat} {b1 b2 : Bool}, bb = false → a ≤ a1 → a1 ≤ a2 → a2 ≤ S.length → tg z2 (S.drop a2) b2 = (st (S.drop a1) b1).bind pN → b2 = false → rs.length + 1 + (S.length - a2) ≤ N := fun {z2 a1 a2 b1 b2} hb k1 k2 k3 e2 hb2 => by
      have a3 := h4 hb
      have a2 := pN_lt e2
      rcases a2 with a2 | a2
      · rw [a2] at hb2; cases hb2
      · simp only [List.length_drop] at a2; omega
    conv => whnf
    refine ⟨fun hh0 => ?_, fun hh0 => ?_⟩
    · simp only [decide_eq_true_eq, decide_eq_false_iff_not] at hh0
      conv => whnf
      refine ⟨fun hh1 => ?_, fun hh1 => ?_⟩
      · simp only [decide_eq_true_eq, decide_eq_false_iff_not] at hh1
        conv => whnf
        refine (fnumE_s _ _ _ (by first | omega | assumption | decide | simp) (by first | omega | assumption | decide | simp)).call [0] (by decide) trivial (And.intro rfl trivial) ?_
        rintro _ _ ⟨u2, u3, u4, rfl, rfl, g5, g6, g7, g8⟩
        conv => whnf
        refine (fnumE_s _ _ _ (by first | omega | assumption | decide | simp) (by first | omega | assumption | decide | simp)).call [0] (by decide) trivial (And.intro rfl trivial) ?_
        rintro _ _ ⟨u12, u13, u14, rfl, rfl, g15, g16, g17, g18⟩
        conv => whnf
        refine ⟨by simp; omega, ?_⟩
        conv => whnf
        have hb : bb = false := by simpa using hh1
        (dsimp only at *; refine ⟨⟨(i + 1, rs ++ [((u2 : Int), (u12 : Int))], u13, u14), by show i + 1 ≤ u140; omega, by show u13 ≤ S.length; omega, by rw [List.length_append]; have := h4 hb; simp only [List.length_cons, List.length_nil]; omega, fun hq => by rw [List.length_append]; exact hlt hb g6 g16 g17 g15 hq, hnx (by omega) g5 g15⟩, by show u140 - (i + 1) < u140 - i; omega, .of [some 0, some 1, some 2, some 6] (by rfl) ?_⟩)
        conv => whnf
        refine ⟨by rfl, ?_⟩
        conv => whnf
        refine ⟨by exact (w64 _ (by omega) (by omega)).trans (by simp), ?_⟩
        conv => whnf
        refine ⟨by rfl, ?_⟩
        conv => whnf
        refine ⟨by rfl, ?_⟩
        conv => whnf
        refine ⟨by rfl, ?_⟩
        conv => whnf
        refine ⟨by rfl, ?_⟩
        conv => whnf
        refine ⟨by rfl, ?_⟩
        conv => whnf
        refine ⟨by rfl, ?_⟩
        conv => whnf
        refine ⟨by rfl, ?_⟩
        conv => whnf
        refine ⟨by rfl, ?_⟩
        conv => whnf
        refine ⟨by rfl, ?_⟩
        conv => whnf
        refine ⟨by rfl, ?_⟩
        conv => whnf
        refine ⟨by rfl, ?_⟩
        conv => whnf
        refine ⟨by rfl, ?_⟩
        conv => whnf
        refine ⟨by rfl, ?_⟩
        conv => whnf
        refine ⟨by rfl, ?_⟩
        conv => whnf
        refine ⟨by rfl, ?_⟩
        conv => whnf
        refine ⟨by rfl, ?_⟩
        conv => whnf
        refine ⟨by rfl, ?_⟩
        conv => whnf
        refine ⟨by rfl, ?_⟩
        conv => whnf
        refine ⟨by rfl, ?_⟩
        conv => whnf
        refine ⟨by rfl, ?_⟩
        conv => whnf
        refine ⟨by rfl, ?_⟩
        conv => whnf
        refine ⟨by rfl, ?_⟩
        conv => whnf
        refine ⟨by rfl, ?_⟩
        conv => whnf
        refine ⟨by rfl, ?_⟩
        conv => whnf
        refine ⟨by rfl, ?_⟩
        conv => whnf
        refine ⟨by rfl, ?_⟩
        conv => whnf
        refine ⟨by rfl, ?_⟩
        conv => whnf
        refine ⟨by rfl, ?_⟩
        conv => whnf
        refine ⟨by rfl, ?_⟩
        conv => whnf
        refine ⟨by rfl, ?_⟩
        conv => whnf
        refine ⟨by rfl, ?_⟩
        conv => whnf
        refine ⟨by simp, ?_⟩
        conv => whnf
        exact trivial
      · simp only [decide_eq_true_eq, decide_eq_false_iff_not] at hh1
        conv => whnf
        refine .same ?_
        conv => whnf
        (dsimp only at *; refine ⟨mkCf [u0, u10, u20, u30, u40, u50, u60, u70, u80, u90, u100, u110, u120, u130] rs, a, bb, ⟨hfin (.inr (by simpa using ‹(!bb) = false›)), by omega, h3⟩, rfl, _, rfl, .inl rfl⟩)
    · simp only [decide_eq_true_eq, decide_eq_false_iff_not] at hh0
      conv => whnf
      refine .same ?_
      conv => whnf
      (dsimp only at *; refine ⟨mkCf [u0, u10, u20, u30, u40, u50, u60, u70, u80, u90, u100, u110, u120, u130] rs, a, bb, ⟨hfin (.inl (by omega)), by omega, h3⟩, rfl, _, rfl, .inl rfl⟩)
end Go.Proofs.Ytdommpfnoiemkaa

/- Drawn regions: a call that takes a row and hands back a new one. -/
namespace Go.Proofs.Ytdommpfnoiemkaa
open Go.Sx
noncomputable def ffK (h : Hp) : Prop := List.rec (motive := fun _ => Prop) True (fun b _ ih => match b with
  | .fresh => ih
  | .dead => ih
  | .row _ _ _ => ih
  | .fix _ cs => puresK cs ih) h
theorem ffK_sound (h : Hp) : ffK h → ∀ b ∈ h, b = .fresh ∨ FreeBlk b := by
  induction h with
  | nil => intro _ b hb; cases hb
  | cons x h ih =>
    intro hk b hb
    have hx : (x = .fresh ∨ FreeBlk x) ∧ ffK h := by
      cases x with
      | fresh => exact ⟨.inl rfl, hk⟩
      | dead => exact ⟨.inr trivial, hk⟩
      | row t z es => exact ⟨.inr trivial, hk⟩
      | fix t cs =>
        obtain ⟨h1, h2⟩ := puresK_sound (show puresK cs (ffK h) from hk)
        exact ⟨.inr h2, h1⟩
    rcases List.mem_cons.1 hb with rfl | hb
    · exact hx.1
    · exact ih hx.2 b hb
theorem CallG.toD {P : Program} {f : FuncId} {args' : List SV} {h : Hp} {nid b n z : Nat} {t : TypeId} {es' : List (List SV)} {K : Kop} (hn : h.length = n)
    (hc : CallG P f args' h fun s H => s = .sl n ∧ H = h.set b .dead ++ [.row t z es']) (hf : h[nid]? = some .fresh) (hb : b < n) (hbn : b ≠ nid) (hfree : ffK h)
    (hk : K (.sl nid) [(nid, .row t z es'), (b, .dead)] (List.range (n + 1))) : CallD P f args' h nid K := by
  refine ⟨.sl nid, [(nid, .row t z es'), (b, .dead)], List.range (n + 1), hk, ⟨fun w X σ h2 vs hI hr hag => ?_, ?_⟩⟩
  · have hnl : nid < n := by rw [← hn]; exact (List.getElem?_eq_some_iff.1 hf).1
    have e2 : h2 = h := by
      have h1 : ∀ i, i ≤ n → h2[i]? = h[i]? := fun i hi => hag i (List.mem_range.2 (by omega))
      have hl : h2.length ≤ n := by
        exact List.getElem?_eq_none_iff.1 ((h1 n (Nat.le_refl _)).trans (List.getElem?_eq_none (by omega)))
      apply List.ext_getElem?
      intro i
      by_cases hi : i ≤ n
      · exact h1 i hi
      · rw [List.getElem?_eq_none (show h2.length ≤ i by omega), List.getElem?_eq_none (show h.length ≤ i by omega)]
    subst e2
    refine (hc.ok w X σ vs hI hr).mono fun v w' ⟨s, H, σ', ⟨e1, e3⟩, hrep, hI', hS⟩ => ?_
    subst e1; subst e3
    have hσl : σ.length = n := by rw [hI.len, hn]
    have hσl' : σ'.length = n + 1 := by rw [hI'.len]; simp [hn]
    obtain ⟨e, he⟩ : ∃ e, σ'[n]? = some e := ⟨_, List.getElem?_eq_getElem (by omega)⟩
    have hHn : (h2.set b .dead ++ [Blk.row t z es'])[n]? = some (.row t z es') := by rw [List.getElem?_append_right (by simp [hn])]; simp [hn]
    have hHi : ∀ i, i < n → (h2.set b .dead ++ [Blk.row t z es'])[i]? = (h2.set b .dead)[i]? := fun i hi => List.getElem?_append_left (by simp [hn]; exact hi)
    have hbd : (h2.set b .dead)[b]? = some .dead := by rw [List.getElem?_set, if_pos rfl, if_pos (by omega)]
    have hnf : (h2.set b .dead)[nid]? = some .fresh := by rw [List.getElem?_set, if_neg hbn]; exact hf
    have get : ∀ (i : Nat) (a : Ent), ((σ'.take n).set nid e)[i]? = some a → i < n ∧ ((i = nid ∧ a = e) ∨ (i ≠ nid ∧ σ'[i]? = some a)) := by
      intro i a ha
      have hi : i < n := by have := (List.getElem?_eq_some_iff.1 ha).1; simp [hσl'] at this; exact this
      refine ⟨hi, ?_⟩
      rw [List.getElem?_set] at ha
      by_cases hin : nid = i
      · rw [if_pos hin, if_pos (by simp [hσl']; exact hnl)] at ha
        simp at ha; exact .inl ⟨hin.symm, ha.symm⟩
      · rw [if_neg hin, List.getElem?_take_of_lt hi] at ha
        exact .inr ⟨fun q => hin q.symm, ha⟩
    have own : ∀ g, Owned ((σ'.take n).set nid e) g → Owned σ' g := by
      rintro g ⟨i, a, ha, hg⟩
      rcases (get i a ha).2 with ⟨_, rfl⟩ | ⟨_, ha⟩
      · exact ⟨n, a, he, hg⟩
      · exact ⟨i, a, ha, hg⟩
    have ex : ∀ g, Ex X ((σ'.take n).set nid e) g → Ex X σ' g := fun g hx => hx.elim .inl fun ho => .inr (own g ho)
    have hnid : ((σ'.take n).set nid e)[nid]? = some e := by rw [List.getElem?_set, if_pos rfl, if_pos (by simp [hσl']; exact hnl)]
    refine ⟨(σ'.take n).set nid e, ?_, ?_, ?_, by simp [hσl', hσl]⟩
    · cases hrep with
      | sl h' => rw [he] at h'; simp at h'; subst h'; exact .sl hnid
      | slN h' => rw [he] at h'; simp at h'; subst h'; exact .slN hnid
      | slD h' => rw [he] at h'; simp at h'; subst h'; exact .slD hnid
    · show Inv w' X ((σ'.take n).set nid e) ((h2.set nid (.row t z es')).set b .dead)
      refine ⟨by simp [hσl', hn], fun i bl a hbl ha => ?_, fun i a g ha hg => ?_, fun i j a a' g hi hj hg hg' => ?_, fun g hx ho => hI'.dis g hx (own g ho), hI'.xlt⟩
      · obtain ⟨hi, hor⟩ := get i a ha
        rw [List.getElem?_set] at hbl
        by_cases hib : b = i
        · subst hib
          rw [if_pos rfl, if_pos (by simp [hn]; exact hi)] at hbl
          simp at hbl; subst hbl
          rcases hor with ⟨q, _⟩ | ⟨_, ha⟩
          · exact absurd q hbn
          · have := hI'.ok b .dead a (by rw [hHi b hi]; exact hbd) ha
            cases a <;> simp only [BlkOK] at this ⊢
        · rw [if_neg hib, List.getElem?_set] at hbl
          rcases hor with ⟨rfl, rfl⟩ | ⟨hin, ha⟩
          · rw [if_pos rfl, if_pos (by rw [hn]; exact hi)] at hbl
            simp at hbl; subst hbl
            exact (hI'.ok n _ _ hHn he).free trivial ex
          · rw [if_neg (fun q => hin q.symm)] at hbl
            have h3 := hI'.ok i bl a (by rw [hHi i hi, List.getElem?_set, if_neg hib]; exact hbl) ha
            rcases ffK_sound h2 hfree bl (List.mem_of_getElem? hbl) with rfl | hfr
            · cases a <;> simp only [BlkOK] at h3 ⊢
            · exact h3.free hfr ex
      · rcases (get i a ha).2 with ⟨_, rfl⟩ | ⟨_, ha⟩
        · exact hI'.lt n a g he hg
        · exact hI'.lt i a g ha hg
      · rcases (get i a hi).2 with ⟨e1, e1'⟩ | ⟨_, qi⟩ <;> rcases (get j a' hj).2 with ⟨e2, e2'⟩ | ⟨_, qj⟩
        · rw [e1, e2]
        · rw [e1'] at hg
          have := hI'.inj n j _ _ g he qj hg hg'; have := (get j a' hj).1; omega
        · rw [e2'] at hg'
          have := hI'.inj i n _ _ g qi he hg hg'; have := (get i a hi).1; omega
        · exact hI'.inj i j a a' g qi qj hg hg'
    · refine ⟨hS.os, hS.tape, hS.output, hS.size, hS.frame, fun g ho hg => hS.blks g (own g ho) hg, fun i a hi ha hfr => ?_⟩
      rw [hσl] at hi
      have hin : nid ≠ i := by
        rintro rfl
        have h4 := hI.ok nid .fresh a hf ha
        cases a <;> simp only [BlkOK] at h4
        exact hfr rfl
      rw [List.getElem?_set, if_neg hin, List.getElem?_take_of_lt hi]
      exact hS.ents i a (by omega) ha hfr
  · intro p hp
    have hnl : nid < n := by rw [← hn]; exact (List.getElem?_eq_some_iff.1 hf).1
    simp at hp
    rcases hp with rfl | rfl
    · exact List.mem_range.2 (by show nid < n + 1; omega)
    · exact List.mem_range.2 (by show b < n + 1; omega)
end Go.Proofs.Ytdommpfnoiemkaa

/- Chapter 27: events and configurations written. -/
namespace Go.Proofs.Ytdommpfnoiemkaa
open Go.Sx
set_option linter.unusedSimpArgs false
set_option linter.unusedVariables false
def flg (b : Bool) : UInt8 := if b then 1 else 0
def evB (e : Ev) : List UInt8 := encN e.k.toNat ++ encN e.a.toNat ++ encN e.b.toNat ++ encN e.c.toNat ++ encN e.s.length ++ e.s ++ encN e.fl.length ++ e.fl.map flg
def fldL (c : Cf) : List Int := [c.mo, c.an, c.ad, c.pk, c.pq, c.pn, c.cp, c.cb, c.ca, c.tr, c.wi, c.qu, c.cy, c.re]
set_option maxRecDepth 100000 in
set_option maxHeartbeats 4000000 in
theorem fields_s (c : Cf) : PSpec Try.prog 95 [cfE c] (· = .rs 1 (nums (fldL c))) := by
  refine .of_codeF tab_ok Try.func95 (by rfl) rfl trivial ?_
  conv => whnf
  rfl
theorem fl_get {l : List Bool} {i : Nat} (h : i < l.length) : (l.map blE)[(i : Int).toNat]? = some [SV.bool (l.getD i false)] := by
  rw [Int.toNat_natCast, List.getElem?_map, List.getElem?_eq_getElem h]; simp [List.getD, List.getElem?_eq_getElem h]
theorem evB_len {e : Ev} (h : evP e) : (evB e).length ≤ 330 := by
  unfold evP at h
  have l1 := encN_len9 e.k.toNat (by omega)
  have l2 := encN_len9 e.a.toNat (by omega)
  have l3 := encN_len9 e.b.toNat (by omega)
  have l4 := encN_len9 e.c.toNat (by omega)
  have l5 := encN_len9 e.s.length (by omega)
  have l6 := encN_len9 e.fl.length (by omega)
  simp only [evB, List.length_append, List.length_map]; omega
abbrev evR (es : List (List SV)) (e : Ev) : List (List SV) := es ++ List.map byteCell (encN e.k.toNat) ++ List.map byteCell (encN e.a.toNat) ++ List.map byteCell (encN e.b.toNat) ++ List.map byteCell (encN e.c.toNat) ++ List.map byteCell (encN (e.s.length : Int).toNat) ++ List.map byteCell e.s ++ List.map byteCell (encN ((List.map blE e.fl).length : Int).toNat)
theorem fl_step {l : List Bool} {i : Nat} (h : i < l.length) : ((l.take (i + 1)).map flg).map byteCell = ((l.take i).map flg).map byteCell ++ [byteCell (flg (l.getD i false))] := by
  rw [List.take_add_one, List.map_append, List.map_append, List.getElem?_eq_getElem h]; simp [List.getD, List.getElem?_eq_getElem h]
set_option maxRecDepth 100000 in
set_option maxHeartbeats 4000000 in
theorem event_s (es : List (List SV)) (e : Ev) (he : evP e) (hb : es.length ≤ 100000000) :
    GSpec Try.prog 97 [.sl 0, .agg (evE e)] [.row 5 1 es] fun s ho => s = .sl 1 ∧ ho = [.dead, .row 5 1 (es ++ (evB e).map byteCell)] := by
  refine .of_code tab_ok Try.func97 (by rfl) rfl ?_
  have hv := he
  unfold evP at hv
  have l1 := encN_len9 e.k.toNat (by omega)
  have l2 := encN_len9 e.a.toNat (by omega)
  have l3 := encN_len9 e.b.toNat (by omega)
  have l4 := encN_len9 e.c.toNat (by omega)
  have l5 := encN_len9 (e.s.length : Int).toNat (by omega)
  have l6 := encN_len9 ((e.fl.map blE).length : Int).toNat (by rw [List.length_map]; omega)
  have hm : (e.fl.map blE).length = e.fl.length := List.length_map ..
  conv => whnf
  refine LoopG.unr tab_ok 6 ?_
  conv => whnf
  refine both_t rfl ?_
  conv => whnf
  refine ⟨by simp, ?_⟩
  conv => whnf
  refine ⟨_, rfl, ?_⟩
  conv => whnf
  refine (number_s _ _ (by first | omega | (simp only [List.length_append, List.length_map]; omega) | assumption | decide | simp) (by first | omega | (simp only [List.length_append, List.length_map]; omega) | assumption | decide | simp) (by first | omega | (simp only [List.length_append, List.length_map]; omega) | assumption | decide | simp)).call [0, 3] (by rfl) (And.intro rfl trivial) (And.intro rfl trivial) ?_
  rintro _ _ ⟨rfl, rfl⟩
  conv => whnf
  refine both_t rfl ?_
  conv => whnf
  refine ⟨by (refine ⟨?_, ?_⟩ <;> simp [IntKind.wrap_i64]), ?_⟩
  conv => whnf
  refine ⟨_, rfl, ?_⟩
  conv => whnf
  refine (number_s _ _ (by first | omega | (simp only [List.length_append, List.length_map]; omega) | assumption | decide | simp) (by first | omega | (simp only [List.length_append, List.length_map]; omega) | assumption | decide | simp) (by first | omega | (simp only [List.length_append, List.length_map]; omega) | assumption | decide | simp)).call [3, 4] (by rfl) (And.intro rfl trivial) (And.intro rfl trivial) ?_
  rintro _ _ ⟨rfl, rfl⟩
  conv => whnf
  refine both_t rfl ?_
  conv => whnf
  refine ⟨by (refine ⟨?_, ?_⟩ <;> simp [IntKind.wrap_i64]), ?_⟩
  conv => whnf
  refine ⟨_, rfl, ?_⟩
  conv => whnf
  refine (number_s _ _ (by first | omega | (simp only [List.length_append, List.length_map]; omega) | assumption | decide | simp) (by first | omega | (simp only [List.length_append, List.length_map]; omega) | assumption | decide | simp) (by first | omega | (simp only [List.length_append, List.length_map]; omega) | assumption | decide | simp)).call [4, 5] (by rfl) (And.intro rfl trivial) (And.intro rfl trivial) ?_
  rintro _ _ ⟨rfl, rfl⟩
  conv => whnf
  refine both_t rfl ?_
  conv => whnf
  refine ⟨by (refine ⟨?_, ?_⟩ <;> simp [IntKind.wrap_i64]), ?_⟩
  conv => whnf
  refine ⟨_, rfl, ?_⟩
  conv => whnf
  refine (number_s _ _ (by first | omega | (simp only [List.length_append, List.length_map]; omega) | assumption | decide | simp) (by first | omega | (simp only [List.length_append, List.length_map]; omega) | assumption | decide | simp) (by first | omega | (simp only [List.length_append, List.length_map]; omega) | assumption | decide | simp)).call [5, 6] (by rfl) (And.intro rfl trivial) (And.intro rfl trivial) ?_
  rintro _ _ ⟨rfl, rfl⟩
  conv => whnf
  refine both_t rfl ?_
  conv => whnf
  refine ⟨by (refine ⟨?_, ?_⟩ <;> simp [IntKind.wrap_i64]), ?_⟩
  conv => whnf
  refine ⟨_, rfl, ?_⟩
  conv => whnf
  refine (number_s _ _ (by first | omega | (simp only [List.length_append, List.length_map]; omega) | assumption | decide | simp) (by first | omega | (simp only [List.length_append, List.length_map]; omega) | assumption | decide | simp) (by first | omega | (simp only [List.length_append, List.length_map]; omega) | assumption | decide | simp)).call [6, 7] (by rfl) (And.intro rfl trivial) (And.intro rfl trivial) ?_
  rintro _ _ ⟨rfl, rfl⟩
  conv => whnf
  refine both_f rfl ?_
  conv => whnf
  refine ⟨by (simp only [List.length_append, List.length_map]; omega), ?_⟩
  conv => whnf
  refine (number_s _ _ (by first | omega | (simp only [List.length_append, List.length_map]; omega) | assumption | decide | simp) (by first | omega | (simp only [List.length_append, List.length_map]; omega) | assumption | decide | simp) (by first | omega | (simp only [List.length_append, List.length_map]; omega) | assumption | decide | simp)).call [8, 9] (by rfl) (And.intro rfl trivial) (And.intro rfl trivial) ?_
  rintro _ _ ⟨rfl, rfl⟩
  conv => whnf
  -- LOOP m=[Blk.row 5 1 es].length F=[SV.sl 9, SV.agg (evE e), SV.undef, SV.ptr 1 0, SV.nils, SV.undef, SV.int IntKind.i64 ↑e.s.length, SV.undef, SV.undef, SV.undef, SV.ptr 1 (0 + (0, 3, 1).fst), SV.int IntKind.i64 e.k, SV.ptr 1 (0 + (1, 3, 1).fst), SV.int IntKind.i64 e.a, SV.ptr 1 (0 + (2, 3, 1).fst), SV.int IntKind.i64 e.b, SV.ptr 1 (0 + (3, 3, 1).fst), SV.int IntKind.i64 e.c, SV.ptr 1 (0 + (4, 9, 1).fst), SV.str e.s, SV.int IntKind.i64 ↑e.s.length, SV.sl 2, SV.int IntKind.i64 ↑[[SV.int IntKind.i64 e.k], [SV.int IntKind.i64 e.a], [SV.int IntKind.i64 e.b], [SV.int IntKind.i64 e.c], [SV.int IntKind.i64 ↑e.s.length]].length, SV.int IntKind.i64 (IntKind.i64.wrap (IntKind.i64.wrap (IntKind.i64.wrap (IntKind.i64.wrap (IntKind.i64.wrap (0 + 1) + 1) + 1) + 1) + 1)), SV.ff, SV.ep 2 (IntKind.i64.wrap (IntKind.i64.wrap (IntKind.i64.wrap (IntKind.i64.wrap (0 + 1) + 1) + 1) + 1)).toNat 0, SV.int IntKind.i64 ↑e.s.length, SV.sl 6, SV.int IntKind.i64 ↑e.s.length, SV.sl 7, SV.int IntKind.i64 (IntKind.i64.wrap (IntKind.i64.wrap (IntKind.i64.wrap (IntKind.i64.wrap (IntKind.i64.wrap (0 + 1) + 1) + 1) + 1) + 1)), SV.sl 7, SV.ptr 1 (0 + (4, 9, 1).fst), SV.str e.s, SV.sl 8, SV.sl 8, SV.ptr 1 (0 + (5, 72, 1).fst), SV.rs 1 (List.map blE e.fl), SV.int IntKind.i64 ↑(List.map blE e.fl).length, SV.sl 9, SV.ptr 1 (0 + (5, 72, 1).fst), SV.rs 1 (List.map blE e.fl), SV.int IntKind.i64 ↑(List.map blE e.fl).length, SV.int IntKind.i64 0, SV.undef, SV.undef, SV.undef, SV.undef, SV.undef, SV.undef, SV.undef, SV.undef, SV.undef, SV.undef] heap=[Blk.dead, (1, Blk.fix 74 (evE e)).snd, (2, Blk.row 3 { ti := TI.int IntKind.i64, size := 1, bytes := 8, zero := [SV.int IntKind.i64 0], flat := false }.size [[SV.int IntKind.i64 e.k], [SV.int IntKind.i64 e.a], [SV.int IntKind.i64 e.b], [SV.int IntKind.i64 e.c], [SV.int IntKind.i64 ↑e.s.length]]).snd, Blk.dead, Blk.dead, Blk.dead, Blk.dead, (7, Blk.dead).snd, Blk.dead, Blk.row 5 1 (es ++ List.map byteCell (encN e.k.toNat) ++ List.map byteCell (encN e.a.toNat) ++ List.map byteCell (encN e.b.toNat) ++ List.map byteCell (encN e.c.toNat) ++ List.map byteCell (encN (↑e.s.length).toNat) ++ List.map byteCell e.s ++ List.map byteCell (encN (↑(List.map blE e.fl).length).toNat))]
  have hR : (evR es e).length ≤ es.length + 309 := by simp only [evR, List.length_append, List.length_map] at l5 l6 ⊢; omega
  refine LoopG.inv tab_ok 54 (fun x : { i : Nat // i ≤ e.fl.length } => [(0, .sl 1), (41, .rs 1 (e.fl.map blE)), (42, .int .i64 ((e.fl.map blE).length : Int)), (43, .int .i64 (x.1 : Int))])
    (fun x => [.dead, .row 5 1 (evR es e ++ ((e.fl.take x.1).map flg).map byteCell)]) (fun x => e.fl.length - x.1) ⟨0, by omega⟩ (.of [some 0, some 9] (by rfl) ?_) ?_
  · conv => whnf
    refine ⟨by rfl, ?_⟩
    conv => whnf
    refine ⟨by rfl, ?_⟩
    conv => whnf
    refine ⟨by rfl, ?_⟩
    conv => whnf
    refine ⟨by simp, ?_⟩
    conv => whnf
    exact trivial
  · intro x
    have hx := x.2
    have hT : (((e.fl.take x.1).map flg).map byteCell).length ≤ 16 := by simp only [List.length_map, List.length_take]; omega
    conv => whnf
    refine ⟨fun hb => ?_, fun hb => ?_⟩
    · have hb : x.1 < e.fl.length := by simp only [decide_eq_true_eq] at hb; omega
      have hs := fl_step hb
      conv => whnf
      refine ⟨by omega, ?_⟩
      conv => whnf
      refine ⟨_, fl_get hb, ?_⟩
      conv => whnf
      refine ⟨fun hh1 => ?_, fun hh1 => ?_⟩
      · skip
        conv => whnf
        refine ⟨by (simp only [List.length_append, List.length_cons, List.length_nil] at *; omega), ?_⟩
        conv => whnf
        (refine ⟨⟨x.1 + 1, by omega⟩, by show e.fl.length - (x.1 + 1) < e.fl.length - x.1; omega, .of [some 0, some 3] (by rfl) ?_⟩)
        conv => whnf
        refine ⟨by rfl, ?_⟩
        conv => whnf
        refine ⟨by rfl, ?_⟩
        conv => whnf
        refine ⟨by exact (w64 _ (by omega) (by omega)).trans (by simp), ?_⟩
        conv => whnf
        refine ⟨by (rw [hs, ‹e.fl.getD x.1 false = true›, List.append_assoc]; rfl), ?_⟩
        conv => whnf
        exact trivial
      · skip
        conv => whnf
        refine ⟨by (simp only [List.length_append, List.length_cons, List.length_nil] at *; omega), ?_⟩
        conv => whnf
        (refine ⟨⟨x.1 + 1, by omega⟩, by show e.fl.length - (x.1 + 1) < e.fl.length - x.1; omega, .of [some 0, some 3] (by rfl) ?_⟩)
        conv => whnf
        refine ⟨by rfl, ?_⟩
        conv => whnf
        refine ⟨by rfl, ?_⟩
        conv => whnf
        refine ⟨by exact (w64 _ (by omega) (by omega)).trans (by simp), ?_⟩
        conv => whnf
        refine ⟨by (rw [hs, ‹e.fl.getD x.1 false = false›, List.append_assoc]; rfl), ?_⟩
        conv => whnf
        exact trivial
    · have hb : e.fl.length ≤ x.1 := by simp only [decide_eq_false_iff_not] at hb; omega
      conv => whnf
      refine .same ?_
      conv => whnf
      (refine OutG.of [some 0, some 1] (.sl 1) [.dead, .row 5 1 (es ++ (evB e).map byteCell)] (by rfl) ⟨rfl, rfl⟩ ?_; (conv => whnf); refine ⟨?_, trivial⟩; rw [List.take_of_length_le hb]; simp only [evR, evB, hm, List.map_append, List.append_assoc, Int.toNat_natCast])
end Go.Proofs.Ytdommpfnoiemkaa

/- Chapter 27: scripts written, by the program. -/
namespace Go.Proofs.Ytdommpfnoiemkaa
open Go.Sx
set_option linter.unusedSimpArgs false
set_option linter.unusedVariables false
def evsB (l : List Ev) : List UInt8 := (l.map evB).flatten
def rtB (r : Int × Int) : List UInt8 := encN r.1.toNat ++ encN r.2.toNat
def rtsB (l : List (Int × Int)) : List UInt8 := (l.map rtB).flatten
def numsB (l : List Int) : List UInt8 := (l.map fun z => encN z.toNat).flatten
def scrB (c : Cf) (l : List Ev) : List UInt8 := [65, 83, 1] ++ numsB (fldL c) ++ encN c.rs.length ++ rtsB c.rs ++ encN l.length ++ evsB l
def scrD (c : Cf) (l : List Ev) : List UInt8 := scrB c l ++ twoB (ckV (scrB c l))
def evsOk (l : List Ev) : Bool := l.all evOk
def encR (c : Cf) (l : List Ev) : SV :=
  if ¬ (cfOk c = true ∧ evsOk l = true) then .tup [.str [], .int .i64 1] else if 4096 < l.length then .tup [.str [], .int .i64 4] else if 262144 < (scrD c l).length then .tup [.str [], .int .i64 4] else .tup [.str (scrD c l), .int .i64 0]
theorem encR_c {c : Cf} {l : List Ev} (h : cfOk c = false) : encR c l = .tup [.str [], .int .i64 1] := by unfold encR; rw [if_pos (by rw [h]; simp)]
theorem encR_e {c : Cf} {l : List Ev} (h : evsOk l = false) : encR c l = .tup [.str [], .int .i64 1] := by unfold encR; rw [if_pos (by rw [h]; simp)]
theorem encR_f {c : Cf} {l : List Ev} (hc : cfOk c = true) (he : evsOk l = true) (h : 4096 < l.length) : encR c l = .tup [.str [], .int .i64 4] := by unfold encR; rw [if_neg (by rw [hc, he]; simp), if_pos h]
theorem encR_g {c : Cf} {l : List Ev} (hc : cfOk c = true) (he : evsOk l = true) (h : ¬ 4096 < l.length) (h2 : 262144 < (scrD c l).length) : encR c l = .tup [.str [], .int .i64 4] := by unfold encR; rw [if_neg (by rw [hc, he]; simp), if_neg h, if_pos h2]
theorem encR_o {c : Cf} {l : List Ev} (hc : cfOk c = true) (he : evsOk l = true) (h : ¬ 4096 < l.length) (h2 : ¬ 262144 < (scrD c l).length) : encR c l = .tup [.str (scrD c l), .int .i64 0] := by unfold encR; rw [if_neg (by rw [hc, he]; simp), if_neg h, if_neg h2]
def ev0 : Ev := ⟨0, 0, 0, 0, [], []⟩
theorem ev_get {l : List Ev} {i : Nat} (h : i < l.length) : (l.map evE)[(i : Int).toNat]? = some (evE (l.getD i ev0)) := by
  rw [Int.toNat_natCast, List.getElem?_map, List.getElem?_eq_getElem h]; simp [List.getD, List.getElem?_eq_getElem h]
theorem evs_bad {l : List Ev} {i : Nat} (h : i < l.length) (hb : evOk (l.getD i ev0) = false) : evsOk l = false := by
  unfold evsOk
  rw [List.all_eq_false]
  exact ⟨l[i], List.getElem_mem h, by simpa [List.getD, List.getElem?_eq_getElem h] using hb⟩
theorem evs_take {l : List Ev} {i : Nat} (h : i < l.length) (hr : evsOk (l.take i) = true) (hb : evOk (l.getD i ev0) = true) : evsOk (l.take (i + 1)) = true := by
  unfold evsOk at *
  rw [List.take_add_one, List.all_append, hr]
  simpa [List.getElem?_eq_getElem h, List.getD] using hb
theorem evs_at {l : List Ev} {i : Nat} (h : i < l.length) (hr : evsOk l = true) : evP (l.getD i ev0) := by
  unfold evsOk at hr
  have := List.all_eq_true.1 hr l[i] (List.getElem_mem h)
  simpa [List.getD, List.getElem?_eq_getElem h, evOk] using this
theorem rs_at {l : List (Int × Int)} {i : Nat} (h : i < l.length) (hr : rsOk l = true) : rtP (l.getD i (0, 0)) := by
  unfold rsOk at hr
  have := List.all_eq_true.1 hr l[i] (List.getElem_mem h)
  simpa [List.getD, List.getElem?_eq_getElem h] using this
theorem flat_step {α : Type} {f : α → List UInt8} {l : List α} {i : Nat} (d : α) (h : i < l.length) : ((l.take (i + 1)).map f).flatten = ((l.take i).map f).flatten ++ f (l.getD i d) := by
  rw [List.take_add_one, List.map_append, List.flatten_append, List.getElem?_eq_getElem h]; simp [List.getD, List.getElem?_eq_getElem h]
theorem flat_len {α : Type} {f : α → List UInt8} {l : List α} {k : Nat} (h : ∀ x ∈ l, (f x).length ≤ k) : ((l.map f).flatten).length ≤ k * l.length := by
  induction l with
  | nil => simp
  | cons x l ih =>
    have h1 := h x (by simp)
    have h2 := ih fun y hy => h y (by simp [hy])
    simp only [List.map_cons, List.flatten_cons, List.length_append, List.length_cons, Nat.mul_add]
    omega
theorem fld_rng {c : Cf} (h : cfP0 c) : ∀ z ∈ fldL c, 0 ≤ z ∧ z ≤ 1099511627776 := by
  unfold cfP0 alP prP cpP at h
  simp only [fldL, List.mem_cons, List.not_mem_nil, or_false]
  rintro z (rfl | rfl | rfl | rfl | rfl | rfl | rfl | rfl | rfl | rfl | rfl | rfl | rfl | rfl) <;> omega
theorem getD_in {l : List Int} {i : Nat} (h : i < l.length) : l.getD i 0 ∈ l := by
  rw [List.getD_eq_getElem?_getD, List.getElem?_eq_getElem h]; exact List.getElem_mem h
theorem nu_get {ls : List Int} {i : Nat} (h : i < ls.length) : (nums ls)[(i : Int).toNat]? = some [SV.int .i64 (ls.getD i 0)] := by
  simp [nums, List.getD, List.getElem?_eq_getElem h]
theorem numsB_len {c : Cf} (h : cfP0 c) (i : Nat) : (numsB ((fldL c).take i)).length ≤ 126 := by
  have := flat_len (f := fun z : Int => encN z.toNat) (l := (fldL c).take i) (k := 9) fun z hz => encN_len9 _ (by have := fld_rng h z (List.mem_of_mem_take hz); omega)
  have e : ((fldL c).take i).length ≤ 14 := by rw [List.length_take]; simp [fldL]; omega
  unfold numsB; omega
theorem rtsB_len {l : List (Int × Int)} (h : rsOk l = true) (i : Nat) : (rtsB (l.take i)).length ≤ 18 * l.length := by
  have := flat_len (f := rtB) (l := l.take i) (k := 18) fun r hr => by
    have hr := List.mem_of_mem_take hr
    have h1 : rtP r := of_decide_eq_true (List.all_eq_true.1 h r hr)
    unfold rtP at h1
    have a := encN_len9 r.1.toNat (by omega)
    have b := encN_len9 r.2.toNat (by omega)
    simp only [rtB, List.length_append]; omega
  have e : (l.take i).length ≤ l.length := by rw [List.length_take]; omega
  unfold rtsB
  have : 18 * (l.take i).length ≤ 18 * l.length := Nat.mul_le_mul_left _ e
  omega
theorem evsB_len {l : List Ev} (h : evsOk l = true) (i : Nat) : (evsB (l.take i)).length ≤ 330 * l.length := by
  have := flat_len (f := evB) (l := l.take i) (k := 330) fun r hr => evB_len (by
    have hr := List.mem_of_mem_take hr
    exact of_decide_eq_true (List.all_eq_true.1 h r hr))
  have e : (l.take i).length ≤ l.length := by rw [List.length_take]; omega
  unfold evsB
  have : 330 * (l.take i).length ≤ 330 * l.length := Nat.mul_le_mul_left _ e
  omega
def scr1 (c : Cf) : List UInt8 := [65, 83, 1] ++ numsB (fldL c) ++ encN c.rs.length
def scr2 (c : Cf) (n : Nat) : List UInt8 := scr1 c ++ rtsB c.rs ++ encN n
set_option maxRecDepth 100000 in
set_option maxHeartbeats 4000000 in
theorem encode_s (c : Cf) (l : List Ev) (hc : c.rs.length ≤ 9223372036854775807) (hl : l.length ≤ 9223372036854775807) : PSpec Try.prog 53 [cfE c, .rs 6 (l.map evE)] (· = encR c l) := by
  refine .of_code' tab_ok Try.func53 (by rfl) rfl trivial ?_
  have hm : (l.map evE).length = l.length := List.length_map ..
  conv => whnf
  refine (cfv_s c hc).call ?_
  rintro _ rfl
  conv => whnf
  refine ⟨fun hv => ?_, fun hv => ?_⟩
  · have hv : cfOk c = false := by simpa using hv
    conv => whnf
    exact (encR_c hv).symm
  · have hv : cfOk c = true := by simpa using hv
    have hv2 := (cfOk_of hv).1
    unfold cfP0 alP prP cpP at hv2
    conv => whnf
    refine LoopG.inv tab_ok 95 (fun x : { i : Nat // i ≤ l.length ∧ evsOk (l.take i) = true } => [(1, .rs 6 (l.map evE)), (2, .ptr 0 0), (19, .rs 6 (l.map evE)), (20, .int .i64 ((l.map evE).length : Int)), (21, .int .i64 (x.1 : Int))])
      (fun _ => [.fix 71 (cfC c)]) (fun x => l.length - x.1) ⟨0, by omega, rfl⟩ (.of [some 0] (by rfl) ?_) ?_
    · conv => whnf
      refine ⟨by rfl, ?_⟩
      conv => whnf
      refine ⟨by rfl, ?_⟩
      conv => whnf
      refine ⟨by rfl, ?_⟩
      conv => whnf
      refine ⟨by rfl, ?_⟩
      conv => whnf
      refine ⟨by rfl, ?_⟩
      conv => whnf
      refine ⟨by rfl, ?_⟩
      conv => whnf
      refine ⟨by rfl, ?_⟩
      conv => whnf
      refine ⟨by rfl, ?_⟩
      conv => whnf
      refine ⟨by rfl, ?_⟩
      conv => whnf
      refine ⟨by rfl, ?_⟩
      conv => whnf
      refine ⟨by rfl, ?_⟩
      conv => whnf
      refine ⟨by rfl, ?_⟩
      conv => whnf
      refine ⟨by rfl, ?_⟩
      conv => whnf
      refine ⟨by rfl, ?_⟩
      conv => whnf
      refine ⟨by rfl, ?_⟩
      conv => whnf
      refine ⟨by rfl, ?_⟩
      conv => whnf
      refine ⟨by rfl, ?_⟩
      conv => whnf
      refine ⟨by rfl, ?_⟩
      conv => whnf
      refine ⟨by rfl, ?_⟩
      conv => whnf
      exact trivial
    · intro x
      have hx := x.2
      conv => whnf
      refine ⟨fun hb => ?_, fun hb => ?_⟩
      · have hb : x.1 < l.length := by simp only [decide_eq_true_eq] at hb; omega
        conv => whnf
        refine ⟨by omega, ?_⟩
        conv => whnf
        refine ⟨_, ev_get hb, ?_⟩
        conv => whnf
        refine (evv_s _).call ?_
        rintro _ rfl
        conv => whnf
        refine ⟨fun hh11 => ?_, fun hh11 => ?_⟩
        · simp only [decide_eq_true_eq, decide_eq_false_iff_not, Bool.not_eq_true, Bool.not_eq_false, Bool.not_eq_true', Bool.not_eq_false', Bool.and_eq_true, Bool.and_eq_false_iff, Int.not_lt, Int.not_le, Decidable.not_not, beq_iff_eq, Bool.not_eq_eq_eq_not, Bool.not_true, Bool.not_false, beq_eq_false_iff_ne, ne_eq, decide_eq_decide] at hh11
          conv => whnf
          refine .same ?_
          conv => whnf
          exact (encR_e (evs_bad hb ‹_›)).symm
        · simp only [decide_eq_true_eq, decide_eq_false_iff_not, Bool.not_eq_true, Bool.not_eq_false, Bool.not_eq_true', Bool.not_eq_false', Bool.and_eq_true, Bool.and_eq_false_iff, Int.not_lt, Int.not_le, Decidable.not_not, beq_iff_eq, Bool.not_eq_eq_eq_not, Bool.not_true, Bool.not_false, beq_eq_false_iff_ne, ne_eq, decide_eq_decide] at hh11
          conv => whnf
          (refine ⟨⟨x.1 + 1, by omega, evs_take hb hx.2 ‹_›⟩, by show l.length - (x.1 + 1) < l.length - x.1; omega, .of [some 0] (by rfl) ?_⟩)
          conv => whnf
          refine ⟨by rfl, ?_⟩
          conv => whnf
          refine ⟨by rfl, ?_⟩
          conv => whnf
          refine ⟨by rfl, ?_⟩
          conv => whnf
          refine ⟨by exact (w64 _ (by omega) (by omega)).trans (by simp), ?_⟩
          conv => whnf
          refine ⟨by rfl, ?_⟩
          conv => whnf
          refine ⟨by rfl, ?_⟩
          conv => whnf
          refine ⟨by rfl, ?_⟩
          conv => whnf
          refine ⟨by rfl, ?_⟩
          conv => whnf
          refine ⟨by rfl, ?_⟩
          conv => whnf
          refine ⟨by rfl, ?_⟩
          conv => whnf
          refine ⟨by rfl, ?_⟩
          conv => whnf
          refine ⟨by rfl, ?_⟩
          conv => whnf
          refine ⟨by rfl, ?_⟩
          conv => whnf
          refine ⟨by rfl, ?_⟩
          conv => whnf
          refine ⟨by rfl, ?_⟩
          conv => whnf
          refine ⟨by rfl, ?_⟩
          conv => whnf
          refine ⟨by rfl, ?_⟩
          conv => whnf
          refine ⟨by rfl, ?_⟩
          conv => whnf
          refine ⟨by rfl, ?_⟩
          conv => whnf
          exact trivial
      · have he : evsOk l = true := by
          have hb : l.length ≤ x.1 := by simp only [decide_eq_false_iff_not] at hb; omega
          rw [← List.take_of_length_le hb]; exact hx.2
        conv => whnf
        refine .same ?_
        conv => whnf
        refine ⟨fun hb => ?_, fun hb => ?_⟩
        · have hb : 4096 < l.length := by simp only [decide_eq_true_eq] at hb; omega
          conv => whnf
          exact (encR_f hv he hb).symm
        · have hb : ¬ 4096 < l.length := by simp only [decide_eq_false_iff_not] at hb; omega
          conv => whnf
          refine (fields_s c).call ?_
          rintro _ rfl
          conv => whnf
          conv => whnf
          -- LOOP m=0 F=[SV.any, (1, SV.rs 6 (List.map evE l)).snd, (2, SV.ptr 0 0).snd, SV.any, SV.any, SV.any, SV.any, SV.any, SV.sl 1, SV.any, SV.any, SV.any, SV.any, SV.any, SV.any, SV.any, SV.any, SV.any, SV.any, (19, SV.rs 6 (List.map evE l)).snd, (20, SV.int IntKind.i64 ↑(List.map evE l).length).snd, (21, SV.int IntKind.i64 ↑x.val).snd, SV.ff, SV.any, SV.any, SV.any, SV.any, SV.any, SV.any, (1, SV.rs 6 (List.map evE l)).snd, SV.int IntKind.i64 ↑(List.map evE l).length, SV.ff, SV.sl 1, SV.sl 1, SV.agg [SV.int IntKind.i64 c.mo, SV.int IntKind.i64 c.an, SV.int IntKind.i64 c.ad, SV.int IntKind.i64 c.pk, SV.int IntKind.i64 c.pq, SV.int IntKind.i64 c.pn, SV.int IntKind.i64 c.cp, SV.int IntKind.i64 c.cb, SV.int IntKind.i64 c.ca, SV.int IntKind.i64 c.tr, SV.int IntKind.i64 c.wi, SV.int IntKind.i64 c.qu, SV.int IntKind.i64 c.cy, SV.int IntKind.i64 c.re, SV.rs 2 (List.map rtE c.rs)], SV.rs 1 (nums (fldL c)), SV.int IntKind.i64 ↑(nums (fldL c)).length, SV.int IntKind.i64 0, SV.any, SV.any, SV.any, SV.any, SV.any, SV.any, SV.any, SV.any, SV.any, SV.any, SV.any, SV.any, SV.any, ⋯] heap=[Blk.fix 71 (cfC c), (1, Blk.row 5 { ti := TI.int IntKind.u8, size := 1, bytes := 1, zero := [SV.int IntKind.u8 0], flat := false }.size [[SV.int IntKind.u8 65], [SV.int IntKind.u8 83], [SV.int IntKind.u8 1]]).snd, Blk.fresh]
          have hf0 := (cfOk_of hv).1
          have hrs := (cfOk_of hv).2
          have hln : (nums (fldL c)).length = 14 := rfl
          have hnr := encN_len9 ((c.rs.map rtE).length : Int).toNat (by rw [List.length_map]; omega)
          have hnl := encN_len9 ((l.map evE).length : Int).toNat (by rw [List.length_map]; omega)
          have hn14 := numsB_len hf0 14
          have hmr : (c.rs.map rtE).length = c.rs.length := List.length_map ..
          have hs1 : (scr1 c).length ≤ 138 := by
            simp only [scr1, List.length_append, List.length_cons, List.length_nil]
            rw [hmr, Int.toNat_natCast] at hnr
            have : numsB (fldL c) = numsB ((fldL c).take 14) := rfl
            rw [this]; omega
          have hs2 : (scr2 c l.length).length ≤ 400 := by
            have := rtsB_len hrs c.rs.length
            rw [List.take_length] at this
            rw [hm, Int.toNat_natCast] at hnl
            simp only [scr2, List.length_append]; omega
          refine LoopG.inv tab_ok 95 (fun y : { i : Nat // i ≤ 14 } => [(1, .rs 6 (l.map evE)), (2, .ptr 0 0), (8, .sl 1), (35, .rs 1 (nums (fldL c))), (36, .int .i64 ((nums (fldL c)).length : Int)), (37, .int .i64 (y.1 : Int))])
            (fun y => [.fix 71 (cfC c), .row 5 1 ((([65, 83, 1] : List UInt8) ++ numsB ((fldL c).take y.1)).map byteCell)]) (fun y => 14 - y.1) ⟨0, by omega⟩ (.of [some 0, some 1] (by rfl) ?_) ?_
          · conv => whnf
            refine ⟨by rfl, ?_⟩
            conv => whnf
            refine ⟨by rfl, ?_⟩
            conv => whnf
            refine ⟨by rfl, ?_⟩
            conv => whnf
            refine ⟨by rfl, ?_⟩
            conv => whnf
            refine ⟨by rfl, ?_⟩
            conv => whnf
            refine ⟨by rfl, ?_⟩
            conv => whnf
            refine ⟨by rfl, ?_⟩
            conv => whnf
            refine ⟨by rfl, ?_⟩
            conv => whnf
            refine ⟨by rfl, ?_⟩
            conv => whnf
            refine ⟨by rfl, ?_⟩
            conv => whnf
            refine ⟨by rfl, ?_⟩
            conv => whnf
            refine ⟨by rfl, ?_⟩
            conv => whnf
            refine ⟨by rfl, ?_⟩
            conv => whnf
            refine ⟨by rfl, ?_⟩
            conv => whnf
            refine ⟨by rfl, ?_⟩
            conv => whnf
            refine ⟨by rfl, ?_⟩
            conv => whnf
            refine ⟨by rfl, ?_⟩
            conv => whnf
            refine ⟨by rfl, ?_⟩
            conv => whnf
            refine ⟨by rfl, ?_⟩
            conv => whnf
            refine ⟨by rfl, ?_⟩
            conv => whnf
            exact trivial
          · intro y
            have hy := y.2
            have hny := numsB_len hf0 y.1
            conv => whnf
            refine ⟨fun hc2 => ?_, fun hc2 => ?_⟩
            · have hc2 : y.1 < 14 := by simp only [decide_eq_true_eq] at hc2; omega
              have hz := fld_rng hf0 _ (getD_in (l := fldL c) (i := y.1) hc2)
              have hst := flat_step (f := fun z : Int => encN z.toNat) (l := fldL c) (0 : Int) (show y.1 < (fldL c).length from hc2)
              have hrow : ((([65, 83, 1] : List UInt8) ++ numsB ((fldL c).take y.1)).map byteCell) ++ (encN ((fldL c).getD y.1 0).toNat).map byteCell = ((([65, 83, 1] : List UInt8) ++ numsB ((fldL c).take (y.1 + 1))).map byteCell) := by
                unfold numsB; rw [hst, ← List.append_assoc, ← List.map_append]
              conv => whnf
              refine ⟨by omega, ?_⟩
              conv => whnf
              refine ⟨_, nu_get (by exact hc2), ?_⟩
              conv => whnf
              refine (number_s _ _ (by first | omega | (simp only [List.length_map, List.length_append, List.length_cons, List.length_nil]; omega) | assumption | decide | simp) (by first | omega | (simp only [List.length_map, List.length_append, List.length_cons, List.length_nil]; omega) | assumption | decide | simp) (by first | omega | (simp only [List.length_map, List.length_append, List.length_cons, List.length_nil]; omega) | assumption | decide | simp)).call [1, 2] (by rfl) (And.intro rfl trivial) (And.intro rfl trivial) ?_
              rintro _ _ ⟨rfl, rfl⟩
              conv => whnf
              (refine ⟨⟨y.1 + 1, by omega⟩, by show 14 - (y.1 + 1) < 14 - y.1; omega, .of [some 0, some 2] (by rfl) ?_⟩)
              conv => whnf
              refine ⟨by rfl, ?_⟩
              conv => whnf
              refine ⟨by rfl, ?_⟩
              conv => whnf
              refine ⟨by rfl, ?_⟩
              conv => whnf
              refine ⟨by exact (w64 _ (by omega) (by omega)).trans (by simp), ?_⟩
              conv => whnf
              refine ⟨by rfl, ?_⟩
              conv => whnf
              refine ⟨by rfl, ?_⟩
              conv => whnf
              refine ⟨by rfl, ?_⟩
              conv => whnf
              refine ⟨by rfl, ?_⟩
              conv => whnf
              refine ⟨by rfl, ?_⟩
              conv => whnf
              refine ⟨by rfl, ?_⟩
              conv => whnf
              refine ⟨by rfl, ?_⟩
              conv => whnf
              refine ⟨by rfl, ?_⟩
              conv => whnf
              refine ⟨by rfl, ?_⟩
              conv => whnf
              refine ⟨by rfl, ?_⟩
              conv => whnf
              refine ⟨by rfl, ?_⟩
              conv => whnf
              refine ⟨by rfl, ?_⟩
              conv => whnf
              refine ⟨by rfl, ?_⟩
              conv => whnf
              refine ⟨by rfl, ?_⟩
              conv => whnf
              refine ⟨by rfl, ?_⟩
              conv => whnf
              refine ⟨by omega, ?_⟩
              conv => whnf
              exact trivial
            · have hc2 : y.1 = 14 := by simp only [decide_eq_false_iff_not] at hc2; omega
              have e14 : (fldL c).take y.1 = fldL c := by rw [hc2]; rfl
              conv => whnf
              refine .same ?_
              conv => whnf
              refine (number_s _ _ (by first | omega | (simp only [List.length_map, List.length_append, List.length_cons, List.length_nil]; omega) | assumption | decide | simp) (by first | omega | (simp only [List.length_map, List.length_append, List.length_cons, List.length_nil]; omega) | assumption | decide | simp) (by first | omega | (simp only [List.length_map, List.length_append, List.length_cons, List.length_nil]; omega) | assumption | decide | simp)).call [1, 2] (by rfl) (And.intro rfl trivial) (And.intro rfl trivial) ?_
              rintro _ _ ⟨rfl, rfl⟩
              conv => whnf
              -- LOOP m=0 F=[SV.any, (1, SV.rs 6 (List.map evE l)).snd, (2, SV.ptr 0 0).snd, SV.any, SV.any, SV.any, SV.any, SV.any, SV.sl 2, SV.any, SV.any, SV.any, SV.any, SV.any, SV.any, SV.any, SV.any, SV.any, SV.any, SV.any, SV.any, SV.any, SV.any, SV.any, SV.any, SV.any, SV.any, SV.any, SV.any, SV.any, SV.any, SV.any, SV.any, SV.any, SV.any, (35, SV.rs 1 (nums (fldL c))).snd, (36, SV.int IntKind.i64 ↑(nums (fldL c)).length).snd, (37, SV.int IntKind.i64 ↑y.val).snd, SV.ff, SV.any, SV.any, SV.any, SV.any, SV.any, SV.any, (8, SV.sl 1).snd, SV.ptr 0 (0 + (14, 69, 1).fst), SV.rs 2 (List.map rtE c.rs), SV.int IntKind.i64 ↑(List.map rtE c.rs).length, SV.sl 2, SV.ptr 0 (0 + (14, 69, 1).fst), ⋯] heap=[Blk.fix 71 (cfC c), Blk.dead, Blk.row 5 1 (List.map byteCell ([65, 83, 1] ++ numsB (List.take y.val (fldL c))) ++ List.map byteCell (encN (↑(List.map rtE c.rs).length).toNat))]
              have hrow1 : (([65, 83, 1] : List UInt8) ++ numsB ((fldL c).take y.1)).map byteCell ++ (encN ((c.rs.map rtE).length : Int).toNat).map byteCell = (scr1 c ++ rtsB (c.rs.take 0)).map byteCell := by
                rw [e14, hmr, Int.toNat_natCast, ← List.map_append]; simp [scr1, rtsB]
              refine LoopG.inv tab_ok 95 (fun q : { i : Nat // i ≤ c.rs.length } => [(1, .rs 6 (l.map evE)), (8, .sl 0), (51, .rs 2 (c.rs.map rtE)), (52, .int .i64 ((c.rs.map rtE).length : Int)), (53, .int .i64 (q.1 : Int))])
                (fun q => [.row 5 1 ((scr1 c ++ rtsB (c.rs.take q.1)).map byteCell)]) (fun q => c.rs.length - q.1) ⟨0, by omega⟩ (.of [some 2] (by rfl) ?_) ?_
              · conv => whnf
                refine ⟨by rfl, ?_⟩
                conv => whnf
                refine ⟨by rfl, ?_⟩
                conv => whnf
                refine ⟨by rfl, ?_⟩
                conv => whnf
                refine ⟨by rfl, ?_⟩
                conv => whnf
                refine ⟨by omega, ?_⟩
                conv => whnf
                exact trivial
              · intro q
                have hq := q.2
                have hrq := rtsB_len hrs q.1
                have hlr : ((scr1 c ++ rtsB (c.rs.take q.1)).map byteCell).length ≤ 400 := by rw [List.length_map, List.length_append]; omega
                conv => whnf
                refine ⟨fun hd => ?_, fun hd => ?_⟩
                · have hd : q.1 < c.rs.length := by simp only [decide_eq_true_eq] at hd; omega
                  have hr := rs_at hd hrs
                  unfold rtP at hr
                  have h1 := encN_len9 (c.rs.getD q.1 (0, 0)).1.toNat (by omega)
                  have hst := flat_step (f := rtB) (l := c.rs) (0, 0) hd
                  have hrow : (scr1 c ++ rtsB (c.rs.take q.1)).map byteCell ++ (encN (c.rs.getD q.1 (0, 0)).1.toNat).map byteCell ++ (encN (c.rs.getD q.1 (0, 0)).2.toNat).map byteCell = (scr1 c ++ rtsB (c.rs.take (q.1 + 1))).map byteCell := by
                    unfold rtsB; rw [hst]; simp [rtB]
                  conv => whnf
                  refine ⟨by omega, ?_⟩
                  conv => whnf
                  refine ⟨_, rt_get hd, ?_⟩
                  conv => whnf
                  refine DrawG.of mixed tab_ok ?_
                  conv => whnf
                  -- CALLD f=96 args=[(8, SV.sl 0).snd, SV.int IntKind.i64 (c.rs.getD q.val (0, 0)).fst] heap=[Blk.row 5 1 (List.map byteCell (scr1 c ++ rtsB (List.take q.val c.rs))), (1, Blk.fix 115 [SV.int IntKind.i64 (c.rs.getD q.val (0, 0)).fst, SV.int IntKind.i64 (c.rs.getD q.val (0, 0)).snd]).snd, Blk.fresh, Blk.fresh]
                  have hL2 : ((scr1 c ++ rtsB (c.rs.take q.1)).map byteCell ++ (encN (c.rs.getD q.1 (0, 0)).1.toNat).map byteCell).length ≤ 500 := by simp only [List.length_append, List.length_map] at hlr ⊢; omega
                  refine CallG.toD (b := 0) (n := 4) rfl ((number_s _ _ (by omega) (by omega) (by omega)).call [0, 4] (by rfl) (And.intro rfl trivial) (And.intro rfl trivial) (by rintro _ _ ⟨rfl, rfl⟩; (conv => whnf); exact ⟨rfl, rfl⟩)) (by rfl) (by omega) (by omega) trivial ?_
                  conv => whnf
                  refine CallG.toD (b := 2) (n := 4) rfl ((number_s _ _ (by omega) (by omega) (by exact Nat.le_trans hL2 (by omega))).call [2, 4] (by rfl) (And.intro rfl trivial) (And.intro rfl trivial) (by rintro _ _ ⟨rfl, rfl⟩; (conv => whnf); exact ⟨rfl, rfl⟩)) (by rfl) (by omega) (by omega) trivial ?_
                  conv => whnf
                  refine ⟨by kernel_rfl, ?_⟩
                  conv => whnf
                  (refine ⟨⟨q.1 + 1, by omega⟩, by show c.rs.length - (q.1 + 1) < c.rs.length - q.1; omega, .of [some 3] (by rfl) ?_⟩)
                  conv => whnf
                  refine ⟨by rfl, ?_⟩
                  conv => whnf
                  refine ⟨by rfl, ?_⟩
                  conv => whnf
                  refine ⟨by rfl, ?_⟩
                  conv => whnf
                  refine ⟨by exact (w64 _ (by omega) (by omega)).trans (by simp), ?_⟩
                  conv => whnf
                  refine ⟨by omega, ?_⟩
                  conv => whnf
                  exact trivial
                · have hd : q.1 = c.rs.length := by simp only [decide_eq_false_iff_not] at hd; omega
                  have e15 : c.rs.take q.1 = c.rs := by rw [hd, List.take_length]
                  conv => whnf
                  refine .same ?_
                  conv => whnf
                  refine (number_s _ _ (by first | omega | (simp only [List.length_map, List.length_append, List.length_cons, List.length_nil] at *; omega) | assumption | decide | simp) (by first | omega | (simp only [List.length_map, List.length_append, List.length_cons, List.length_nil] at *; omega) | assumption | decide | simp) (by first | omega | (simp only [List.length_map, List.length_append, List.length_cons, List.length_nil] at *; omega) | assumption | decide | simp)).call [0, 1] (by rfl) (And.intro rfl trivial) (And.intro rfl trivial) ?_
                  rintro _ _ ⟨rfl, rfl⟩
                  conv => whnf
                  -- LOOP m=0 F=[SV.any, (1, SV.rs 6 (List.map evE l)).snd, SV.any, SV.any, SV.any, SV.any, SV.any, SV.any, SV.sl 1, SV.any, SV.any, SV.any, SV.any, SV.any, SV.any, SV.any, SV.any, SV.any, SV.any, SV.any, SV.any, SV.any, SV.any, SV.any, SV.any, SV.any, SV.any, SV.any, SV.any, SV.any, SV.any, SV.any, SV.any, SV.any, SV.any, SV.any, SV.any, SV.any, SV.any, SV.any, SV.any, SV.any, SV.any, SV.any, SV.any, SV.any, SV.any, SV.any, SV.any, SV.any, SV.any, ⋯] heap=[Blk.dead, Blk.row 5 1 (List.map byteCell (scr1 c ++ rtsB (List.take q.val c.rs)) ++ List.map byteCell (encN (↑(List.map evE l).length).toNat))]
                  have hrow2 : (scr1 c ++ rtsB (c.rs.take q.1)).map byteCell ++ (encN ((l.map evE).length : Int).toNat).map byteCell = (scr2 c l.length ++ evsB (l.take 0)).map byteCell := by
                    rw [e15, hm, Int.toNat_natCast]; simp [scr2, evsB]
                  refine LoopG.inv tab_ok 95 (fun r : { i : Nat // i ≤ l.length } => [(8, .sl 0), (69, .rs 6 (l.map evE)), (70, .int .i64 ((l.map evE).length : Int)), (71, .int .i64 (r.1 : Int))])
                    (fun r => [.row 5 1 ((scr2 c l.length ++ evsB (l.take r.1)).map byteCell)]) (fun r => l.length - r.1) ⟨0, by omega⟩ (.of [some 1] (by rfl) ?_) ?_
                  · conv => whnf
                    refine ⟨by rfl, ?_⟩
                    conv => whnf
                    refine ⟨by rfl, ?_⟩
                    conv => whnf
                    refine ⟨by rfl, ?_⟩
                    conv => whnf
                    refine ⟨by omega, ?_⟩
                    conv => whnf
                    exact trivial
                  · intro r
                    have hr := r.2
                    have hev := evsB_len he r.1
                    have hlr : ((scr2 c l.length ++ evsB (l.take r.1)).map byteCell).length ≤ 2000000 := by rw [List.length_map, List.length_append]; omega
                    conv => whnf
                    refine ⟨fun hd => ?_, fun hd => ?_⟩
                    · have hd : r.1 < l.length := by simp only [decide_eq_true_eq] at hd; omega
                      have hep := evs_at hd he
                      have hst := flat_step (f := evB) (l := l) ev0 hd
                      have hrow : (scr2 c l.length ++ evsB (l.take r.1)).map byteCell ++ (evB (l.getD r.1 ev0)).map byteCell = (scr2 c l.length ++ evsB (l.take (r.1 + 1))).map byteCell := by
                        unfold evsB; rw [hst]; simp
                      conv => whnf
                      refine ⟨by omega, ?_⟩
                      conv => whnf
                      refine ⟨_, ev_get hd, ?_⟩
                      conv => whnf
                      refine (event_s _ _ (by first | omega | assumption | decide | simp) (by first | omega | assumption | decide | simp)).call [0, 2] (by rfl) (And.intro rfl (And.intro rfl (And.intro rfl (And.intro rfl (And.intro rfl (And.intro rfl trivial)))))) (And.intro rfl trivial) ?_
                      rintro _ _ ⟨rfl, rfl⟩
                      conv => whnf
                      (refine ⟨⟨r.1 + 1, by omega⟩, by show l.length - (r.1 + 1) < l.length - r.1; omega, .of [some 2] (by rfl) ?_⟩)
                      conv => whnf
                      refine ⟨by rfl, ?_⟩
                      conv => whnf
                      refine ⟨by rfl, ?_⟩
                      conv => whnf
                      refine ⟨by exact (w64 _ (by omega) (by omega)).trans (by simp), ?_⟩
                      conv => whnf
                      refine ⟨by omega, ?_⟩
                      conv => whnf
                      exact trivial
                    · have hd : r.1 = l.length := by simp only [decide_eq_false_iff_not] at hd; omega
                      have e16 : scr2 c l.length ++ evsB (l.take r.1) = scrB c l := by rw [hd, List.take_length]; rfl
                      have ck := ckV_rng (scr2 c l.length ++ evsB (l.take r.1))
                      have hlen : (scr2 c l.length ++ evsB (l.take r.1)).length ≤ 2000000 := by rw [List.length_map] at hlr; exact hlr
                      have k1 := hi_b (n := ckV (scr2 c l.length ++ evsB (l.take r.1))) (by omega) (by omega)
                      have k2 := lo_b (n := ckV (scr2 c l.length ++ evsB (l.take r.1))) (by omega) (by omega)
                      have hrD : (scr2 c l.length ++ evsB (l.take r.1)).map byteCell ++ [[.int .u8 (IntKind.u8.wrap ((ckV (scr2 c l.length ++ evsB (l.take r.1))).fdiv (2 ^ min (Int.toNat 8) IntKind.i64.bits)))], [.int .u8 (IntKind.u8.wrap (ckV (scr2 c l.length ++ evsB (l.take r.1))))]] = (scrD c l).map byteCell := by
                        rw [k1, k2, ← two_row (by omega) (by omega), ← List.map_append]; unfold scrD; rw [← e16]
                      have hlD := congrArg List.length hrD
                      rw [List.length_map] at hlD
                      conv => whnf
                      refine .same ?_
                      conv => whnf
                      (refine ⟨scr2 c l.length ++ evsB (l.take r.1), rfl, ?_⟩)
                      conv => whnf
                      refine (csum_s _ (by first | omega | (simp only [List.length_map, List.length_append] at *; omega) | assumption | decide | simp)).call ?_
                      rintro _ rfl
                      conv => whnf
                      refine ⟨by omega, ?_⟩
                      conv => whnf
                      refine ⟨by simp; omega, ?_⟩
                      conv => whnf
                      refine ⟨fun hh11 => ?_, fun hh11 => ?_⟩
                      · simp only [decide_eq_true_eq, decide_eq_false_iff_not] at hh11
                        conv => whnf
                        exact (encR_g hv he hb (by omega)).symm
                      · simp only [decide_eq_true_eq, decide_eq_false_iff_not] at hh11
                        conv => whnf
                        (refine ⟨scrD c l, hrD, ?_⟩)
                        conv => whnf
                        exact (encR_o hv he hb (by omega)).symm
end Go.Proofs.Ytdommpfnoiemkaa

/- Chapter 27: scripts read, by the program. -/
namespace Go.Proofs.Ytdommpfnoiemkaa
open Go.Sx
set_option linter.unusedSimpArgs false
set_option linter.unusedVariables false
def pV : Nat → List UInt8 → Option (List Ev × List UInt8)
  | 0, s => some ([], s)
  | n + 1, s => (pE s).bind fun p => (pV n p.2).bind fun r => some (p.1 :: r.1, r.2)
theorem pV_step {n : Nat} {z : Ev} {rs : List Ev} {s s1 : List UInt8} {b b1 : Bool} (h1 : tg z s1 b1 = (st s b).bind pE) :
    ((st s b).bind fun t => (pV (n + 1) t).bind fun r => some (rs ++ r.1, r.2)) = (st s1 b1).bind fun t => (pV n t).bind fun r => some ((rs ++ [z]) ++ r.1, r.2) := by
  have e := chain h1 fun z t => (pV n t).bind fun r => some (rs ++ (z :: r.1), r.2)
  refine Eq.trans ?_ (e.trans ?_)
  · simp only [pV, Option.bind_assoc, Option.bind_some]
  · simp only [List.append_assoc, List.cons_append, List.nil_append]
theorem pV_nil (n : Nat) (s : List UInt8) (b : Bool) : (st s b).bind (pV n) = (st s b).bind fun t => (pV n t).bind fun r => some (([] : List Ev) ++ r.1, r.2) := by
  cases b with
  | true => rfl
  | false =>
    simp only [st_f, Option.bind_some, List.nil_append]
    cases pV n s <;> rfl
theorem pV_end {n : Nat} {rs : List Ev} {s : List UInt8} {b : Bool} (h : n = 0 ∨ b = true) : ((st s b).bind fun t => (pV n t).bind fun r => some (rs ++ r.1, r.2)) = tg rs s b := by
  cases b with
  | true => rfl
  | false =>
    rcases h with rfl | h
    · simp [pV]
    · cases h
def pD (s : List UInt8) : Option ((Cf × List Ev) × List UInt8) := (pC s).bind fun p => (pN p.2).bind fun q => (pV q.1 q.2).bind fun r => some ((p.1, r.1), r.2)
theorem pD_fin {c : Cf} {n : Nat} {l : List Ev} {s s1 s2 s3 : List UInt8} {b b1 b2 b3 : Bool} (h1 : tg c s1 b1 = (st s b).bind pC) (h2 : tg n s2 b2 = (st s1 b1).bind pN) (h3 : tg l s3 b3 = (st s2 b2).bind (pV n)) :
    tg (c, l) s3 b3 = (st s b).bind pD := by
  have e1 := chain h1 fun c t => (pN t).bind fun q => (pV q.1 q.2).bind fun r => some ((c, r.1), r.2)
  have e2 := chain h2 fun n t => (pV n t).bind fun r => some ((c, r.1), r.2)
  have e3 : ((st s2 b2).bind fun t => (pV n t).bind fun r => some ((c, r.1), r.2)) = ((st s2 b2).bind (pV n)).bind fun r => some ((c, r.1), r.2) := by cases st s2 b2 <;> rfl
  refine Eq.trans ?_ (e1.trans (e2.trans (e3.trans (by rw [← h3])))).symm
  cases b3 <;> rfl
def c0 : Cf := ⟨0, 0, 0, 0, 0, 0, 0, 0, 0, 0, 0, 0, 0, 0, []⟩
def bodyR (s : List UInt8) : Cf × List Ev × Int := match pD s with
  | none => (c0, [], 11)
  | some ((c, l), r) => if r = [] then (if cfOk c = true ∧ evsOk l = true then (if 4096 < l.length then (c0, [], 4) else (c, l, 0)) else (c0, [], 1)) else (c0, [], 11)
def bdy (s : List UInt8) : List UInt8 := (s.take (s.length - 2)).drop 3
def decR (s : List UInt8) : Cf × List Ev × Int :=
  if 262144 < s.length then (c0, [], 4) else if s.length < 5 then (c0, [], 9) else if ¬ s.take 3 = [65, 83, 1] then (c0, [], 11) else if ¬ numB s (s.length - 2) = ckV (s.take (s.length - 2)) then (c0, [], 10) else bodyR (bdy s)
theorem dec_a {s : List UInt8} (h : 262144 < s.length) : decR s = (c0, [], 4) := by unfold decR; rw [if_pos h]
theorem dec_b {s : List UInt8} (h : s.length < 5) : decR s = (c0, [], 9) := by unfold decR; rw [if_neg (by omega), if_pos h]
theorem dec_c {s : List UInt8} (h : s.length ≤ 262144) (h1 : 5 ≤ s.length) (h2 : ¬ s.take 3 = [65, 83, 1]) : decR s = (c0, [], 11) := by unfold decR; rw [if_neg (by omega), if_neg (by omega), if_pos h2]
theorem dec_d {s : List UInt8} (h : s.length ≤ 262144) (h1 : 5 ≤ s.length) (h2 : s.take 3 = [65, 83, 1]) (h3 : ¬ numB s (s.length - 2) = ckV (s.take (s.length - 2))) : decR s = (c0, [], 10) := by
  unfold decR; rw [if_neg (by omega), if_neg (by omega), if_neg (not_not_intro h2), if_pos h3]
theorem dec_e {s : List UInt8} (h : s.length ≤ 262144) (h1 : 5 ≤ s.length) (h2 : s.take 3 = [65, 83, 1]) (h3 : numB s (s.length - 2) = ckV (s.take (s.length - 2))) : decR s = bodyR (bdy s) := by
  unfold decR; rw [if_neg (by omega), if_neg (by omega), if_neg (not_not_intro h2), if_neg (not_not_intro h3)]
theorem body_n {s : List UInt8} (h : pD s = none) : bodyR s = (c0, [], 11) := by unfold bodyR; rw [h]
theorem body_r {s t : List UInt8} {c : Cf} {l : List Ev} (h : pD s = some ((c, l), t)) (ht : t ≠ []) : bodyR s = (c0, [], 11) := by unfold bodyR; rw [h]; simp [ht]
theorem body_i {s : List UInt8} {c : Cf} {l : List Ev} (h : pD s = some ((c, l), [])) (hv : (cfOk c && evsOk l) = false) : bodyR s = (c0, [], 1) := by
  have : ¬ (cfOk c = true ∧ evsOk l = true) := fun q => by rw [q.1, q.2] at hv; cases hv
  unfold bodyR; rw [h]; simp only [if_true, if_neg this]
theorem body_f {s : List UInt8} {c : Cf} {l : List Ev} (h : pD s = some ((c, l), [])) (hv : (cfOk c && evsOk l) = true) (hl : 4096 < l.length) : bodyR s = (c0, [], 4) := by
  have : cfOk c = true ∧ evsOk l = true := by rw [Bool.and_eq_true] at hv; exact hv
  unfold bodyR; rw [h]; simp only [if_true, if_pos this, if_pos hl]
theorem body_o {s : List UInt8} {c : Cf} {l : List Ev} (h : pD s = some ((c, l), [])) (hv : (cfOk c && evsOk l) = true) (hl : ¬ 4096 < l.length) : bodyR s = (c, l, 0) := by
  have : cfOk c = true ∧ evsOk l = true := by rw [Bool.and_eq_true] at hv; exact hv
  unfold bodyR; rw [h]; simp only [if_true, if_pos this, if_neg hl]
theorem free_str (s : List UInt8) : FreeSV (.str s) := fun w E σ σ' v h => by cases h; exact .str
theorem free_ff : FreeSV .ff := fun w E σ σ' v h => by cases h; exact .ff
theorem rconfigF_s (s : List UInt8) (hs : s.length ≤ 1000000) :
    OSpec Try.prog 113 [.ptr 0 0] [.fix 149 [.str s, .ff]] fun v ho => ∃ (c : Cf) (s' : List UInt8) (b' : Bool), v = .agg (cfC c) ∧ ho = [rdB s' b'] ∧ tg c s' b' = (st s false).bind pC ∧ s'.length ≤ s.length ∧ c.rs.length ≤ 1000001 :=
  ((rconfig_s s false hs).pre (.one (.fix (.cons (.refl _) (.cons .ff .nil)))) (fun b hb => by
    simp at hb; subst hb
    intro x hx
    simp at hx
    rcases hx with rfl | rfl
    · exact free_str s
    · exact free_ff)).mono fun v ho ⟨c, s', b', ⟨h1, h2, h3⟩, h4, h5⟩ => ⟨c, s', b', h4, h5, h1, h2, h3⟩
theorem revF_s (s : List UInt8) (b : Bool) (hs : s.length ≤ 1000000) :
    OSpec Try.prog 115 [.ptr 0 0] [rdB s b] fun v ho => ∃ (e : Ev) (s' : List UInt8) (b' : Bool), v = .agg (evE e) ∧ ho = [rdB s' b'] ∧ tg e s' b' = (st s b).bind pE ∧ s'.length ≤ s.length ∧ (b' = true ∨ s'.length < s.length) ∧ e.fl.length ≤ 1000001 ∧ e.s.length ≤ 1000000 :=
  (revE_s s b hs).mono fun v ho ⟨c, s', b', ⟨h1, h2, h3⟩, h4, h5⟩ => ⟨c, s', b', h4, h5, h1, h2, h3⟩
theorem orF {b : Bool} {p : Prop} (h : b = true ∨ p) (hq : b = false) : p := h.resolve_left (by rw [hq]; simp)
abbrev cf14 (c : Cf) : List SV := [.int .i64 c.mo, .int .i64 c.an, .int .i64 c.ad, .int .i64 c.pk, .int .i64 c.pq, .int .i64 c.pn, .int .i64 c.cp, .int .i64 c.cb, .int .i64 c.ca, .int .i64 c.tr, .int .i64 c.wi, .int .i64 c.qu, .int .i64 c.cy, .int .i64 c.re]
def DecQ (s : List UInt8) (c : Cf) (l : List Ev) (e : Int) : Prop := (e = 0 → decR s = (c, l, 0)) ∧ (e ≠ 0 → decR s = (c0, [], e))
theorem decQ_e {s : List UInt8} {c : Cf} {l : List Ev} {e : Int} (h : decR s = (c0, [], e)) (he : e ≠ 0) : DecQ s c l e := ⟨fun q => absurd q he, fun _ => h⟩
theorem decQ_o {s : List UInt8} {c : Cf} {l : List Ev} (h : decR s = (c, l, 0)) : DecQ s c l 0 := ⟨fun _ => h, fun q => absurd rfl q⟩
def decW (s : List UInt8) (v : SV) : Prop := ∃ (c : Cf) (l : List Ev) (e : Int) (X Y : SV), v = .tup [.agg (cf14 c ++ [X]), Y, .int .i64 e] ∧ SLe X (.rs 2 (c.rs.map rtE)) ∧ SLe Y (.rs 6 (l.map evE)) ∧ DecQ s c l e
set_option maxRecDepth 100000 in
set_option maxHeartbeats 8000000 in
theorem decodeW_s (s : List UInt8) (hs : s.length ≤ 9223372036854775807) : PSpec Try.prog 98 [.str s] (decW s) := by
  refine .of_codeF tab_ok Try.func98 (by rfl) rfl trivial ?_
  conv => whnf
  refine ⟨fun ha => ?_, fun ha => ?_⟩
  · have ha : 262144 < s.length := by simp only [decide_eq_true_eq] at ha; omega
    conv => whnf
    exact ⟨c0, [], 4, _, _, rfl, .nil, .nil, decQ_e (dec_a ha) (by omega)⟩
  · have ha : s.length ≤ 262144 := by simp only [decide_eq_false_iff_not] at ha; omega
    conv => whnf
    refine ⟨fun hb => ?_, fun hb => ?_⟩
    · have hb : s.length < 5 := by simp only [decide_eq_true_eq] at hb; omega
      conv => whnf
      exact ⟨c0, [], 9, _, _, rfl, .nil, .nil, decQ_e (dec_b hb) (by omega)⟩
    · have hb : 5 ≤ s.length := by simp only [decide_eq_false_iff_not] at hb; omega
      conv => whnf
      refine ⟨by omega, ?_⟩
      conv => whnf
      refine ⟨fun hc => ?_, fun hc => ?_⟩
      · have hc : ¬ s.take 3 = [65, 83, 1] := by simpa using hc
        conv => whnf
        exact ⟨c0, [], 11, _, _, rfl, .nil, .nil, decQ_e (dec_c ha hb hc) (by omega)⟩
      · have hc : s.take 3 = [65, 83, 1] := by simpa using hc
        have en : IntKind.i64.wrap ((s.length : Int) - 2) = ((s.length - 2 : Nat) : Int) := by rw [w64 _ (by omega) (by omega)]; omega
        have b1 := byt_rng s (s.length - 2)
        have b2 := byt_rng s (s.length - 2 + 1)
        have e1 : (IntKind.i64.wrap ((s.length : Int) - 2)).toNat = s.length - 2 := by rw [en, Int.toNat_natCast]
        have e2 : (IntKind.i64.wrap (IntKind.i64.wrap ((s.length : Int) - 2) + 1)).toNat = s.length - 2 + 1 := by rw [en, w64 _ (by omega) (by omega)]; omega
        have eo : IntKind.i64.wrap ((BitVec.ofInt IntKind.i64.bits (IntKind.i64.wrap (IntKind.i64.wrap (((s.getD (IntKind.i64.wrap ((s.length : Int) - 2)).toNat 0).toNat : Int)) * 2 ^ min (Int.toNat 8) IntKind.i64.bits)) ||| BitVec.ofInt IntKind.i64.bits (IntKind.i64.wrap (((s.getD (IntKind.i64.wrap (IntKind.i64.wrap ((s.length : Int) - 2) + 1)).toNat 0).toNat : Int)))).toNat : Int) = numB s (s.length - 2) := by
          rw [e1, e2]
          exact (by rw [w64 (byt s (s.length - 2)) (by omega) (by omega), w64 (byt s (s.length - 2 + 1)) (by omega) (by omega)]; exact or_b b1.1 b1.2 b2.1 b2.2 : IntKind.i64.wrap ((BitVec.ofInt IntKind.i64.bits (IntKind.i64.wrap (IntKind.i64.wrap (byt s (s.length - 2)) * 2 ^ min (Int.toNat 8) IntKind.i64.bits)) ||| BitVec.ofInt IntKind.i64.bits (IntKind.i64.wrap (byt s (s.length - 2 + 1)))).toNat : Int) = numB s (s.length - 2))
        conv => whnf
        refine DrawG.of mixed tab_ok ?_
        conv => whnf
        refine ⟨by omega, ?_⟩
        conv => whnf
        refine ⟨by omega, ?_⟩
        conv => whnf
        refine ⟨by omega, ?_⟩
        conv => whnf
        refine ⟨by omega, ?_⟩
        conv => whnf
        refine (csum_s _ (by first | omega | (simp only [List.length_drop, List.length_take]; omega) | (simp only [List.length_drop, List.length_take] at *; omega) | assumption | decide | simp)).calld ?_
        conv => whnf
        refine ⟨by kernel_rfl, ?_⟩
        conv => whnf
        refine ⟨fun hh10 => ?_, fun hh10 => ?_⟩
        · simp only [decide_eq_true_eq, decide_eq_false_iff_not] at hh10
          conv => whnf
          (rw [eo, e1] at hh10; exact ⟨c0, [], 10, _, _, rfl, .nil, .nil, decQ_e (dec_d ha hb hc hh10) (by omega)⟩)
        · simp only [decide_eq_true_eq, decide_eq_false_iff_not] at hh10
          conv => whnf
          refine ⟨by omega, ?_⟩
          conv => whnf
          refine (rconfigF_s _ (by first | omega | (simp only [List.length_drop, List.length_take]; omega) | (simp only [List.length_drop, List.length_take] at *; omega) | assumption | decide | simp)).call [2] (by decide) trivial (And.intro rfl trivial) ?_
          rintro _ _ ⟨u12, u13, u14, rfl, rfl, g15, g16, g17⟩
          conv => whnf
          refine (numE_s _ _ (by first | omega | (simp only [List.length_drop, List.length_take]; omega) | (simp only [List.length_drop, List.length_take] at *; omega) | assumption | decide | simp)).call [2] (by decide) trivial (And.intro rfl trivial) ?_
          rintro _ _ ⟨u22, u23, u24, rfl, rfl, g25, g26, g27⟩
          conv => whnf
          -- LOOP m=0 F=[SV.str s, SV.undef, SV.ptr 0 0, SV.nils, SV.int IntKind.i64 0, SV.int IntKind.i64 (IntKind.i64.wrap (↑s.length - 2)), SV.ptr 2 0, SV.int IntKind.i64 ↑u22, SV.undef, SV.undef, SV.undef, SV.ff, SV.str s, SV.int IntKind.i64 ↑s.length, SV.bool (decide (262144 < ↑s.length)), SV.undef, SV.undef, SV.ff, SV.str s, SV.int IntKind.i64 ↑s.length, SV.bool (decide (↑s.length < 5)), SV.undef, SV.undef, SV.ff, SV.str s, SV.str (List.drop (↑0).toNat (List.take (Int.toNat 3) s)), SV.bool !decide (List.drop (↑0).toNat (List.take (Int.toNat 3) s) = { data := #[65, 83, 1] }.data.toList), SV.undef, SV.undef, SV.str s, SV.int IntKind.i64 ↑s.length, SV.int IntKind.i64 (IntKind.i64.wrap (↑s.length - 2)), SV.str s, SV.int IntKind.i64 (IntKind.i64.wrap (↑s.length - 2)), SV.int IntKind.u8 ↑(s.getD (IntKind.i64.wrap (↑s.length - 2)).toNat 0).toNat, SV.int IntKind.i64 (IntKind.i64.wrap ↑(s.getD (IntKind.i64.wrap (↑s.length - 2)).toNat 0).toNat), SV.int IntKind.i64 (IntKind.i64.wrap (IntKind.i64.wrap ↑(s.getD (IntKind.i64.wrap (↑s.length - 2)).toNat 0).toNat * 2 ^ min (Int.toNat 8) IntKind.i64.bits)), SV.str s, SV.int IntKind.i64 (IntKind.i64.wrap (↑s.length - 2)), SV.int IntKind.i64 (IntKind.i64.wrap (IntKind.i64.wrap (↑s.length - 2) + 1)), SV.int IntKind.u8 ↑(s.getD (IntKind.i64.wrap (IntKind.i64.wrap (↑s.length - 2) + 1)).toNat 0).toNat, SV.int IntKind.i64 (IntKind.i64.wrap ↑(s.getD (IntKind.i64.wrap (IntKind.i64.wrap (↑s.length - 2) + 1)).toNat 0).toNat), SV.int IntKind.i64 (IntKind.i64.wrap ↑(BitVec.ofInt IntKind.i64.bits (IntKind.i64.wrap (⋯ * 2 ^ min (Int.toNat 8) IntKind.i64.bits)) ||| BitVec.ofInt IntKind.i64.bits (IntKind.i64.wrap ↑⋯)).toNat), SV.str s, SV.int IntKind.i64 (IntKind.i64.wrap (↑s.length - 2)), SV.str (List.drop (↑0).toNat (List.take (IntKind.i64.wrap (↑s.length - 2)).toNat s)), SV.int IntKind.i64 (ckV (List.drop (↑0).toNat (List.take (IntKind.i64.wrap (↑s.length - 2)).toNat s))), SV.ff, SV.undef, SV.undef, SV.str s, ⋯] heap=[(0, Blk.fix 71 [SV.int IntKind.i64 u12.mo, SV.int IntKind.i64 u12.an, SV.int IntKind.i64 u12.ad, SV.int IntKind.i64 u12.pk, SV.int IntKind.i64 u12.pq, SV.int IntKind.i64 u12.pn, SV.int IntKind.i64 u12.cp, SV.int IntKind.i64 u12.cb, SV.int IntKind.i64 u12.ca, SV.int IntKind.i64 u12.tr, SV.int IntKind.i64 u12.wi, SV.int IntKind.i64 u12.qu, SV.int IntKind.i64 u12.cy, SV.int IntKind.i64 u12.re, SV.rs 2 (List.map rtE u12.rs)]).snd, Blk.fresh, rdB u23 u24]
          have hck : numB s (s.length - 2) = ckV (s.take (s.length - 2)) := by rw [eo, e1] at hh10; exact Decidable.not_not.1 hh10
          have hD := dec_e ha hb hc hck
          rw [e1] at g15
          have g15 : tg u12 u13 u14 = (st (bdy s) false).bind pC := g15
          have hu13 : u13.length ≤ 262144 := by simp only [List.length_drop, List.length_take] at g16; omega
          obtain ⟨N, hN⟩ : ∃ N, N = u23.length := ⟨_, rfl⟩
          have hNl : N ≤ 262144 := by omega
          refine LoopG.inv tab_ok 115 (fun x : { x : Nat × List Ev × List UInt8 × Bool // x.1 ≤ 4611686018427387904 ∧ x.2.2.1.length ≤ N ∧ x.2.1.length ≤ 1000001 ∧ (x.2.2.2 = false → x.2.1.length + x.2.2.1.length ≤ N) ∧ (st u23 u24).bind (pV u22) = ((st x.2.2.1 x.2.2.2).bind fun t => (pV x.1 t).bind fun r => some (x.2.1 ++ r.1, r.2)) } => [(2, .ptr 0 0), (3, .sl 2), (6, .ptr 1 0), (7, .int .i64 (x.1.1 : Int))])
            (fun x => [.fix 71 (cfC u12), rdB x.1.2.2.1 x.1.2.2.2, .row 74 6 (x.1.2.1.map evE)]) (fun x => x.1.1) ⟨(u22, [], u23, u24), by omega, by show u23.length ≤ N; omega, by simp, by intro _; show 0 + u23.length ≤ N; omega, pV_nil _ _ _⟩ (.of [some 0, some 2, none] (by rfl) ?_) ?_
          · conv => whnf
            refine ⟨by rfl, ?_⟩
            conv => whnf
            refine ⟨by rfl, ?_⟩
            conv => whnf
            refine ⟨by rfl, ?_⟩
            conv => whnf
            refine ⟨by rfl, ?_⟩
            conv => whnf
            refine ⟨by rfl, ?_⟩
            conv => whnf
            refine ⟨by rfl, ?_⟩
            conv => whnf
            refine ⟨by rfl, ?_⟩
            conv => whnf
            refine ⟨by rfl, ?_⟩
            conv => whnf
            refine ⟨by rfl, ?_⟩
            conv => whnf
            refine ⟨by rfl, ?_⟩
            conv => whnf
            refine ⟨by rfl, ?_⟩
            conv => whnf
            refine ⟨by rfl, ?_⟩
            conv => whnf
            refine ⟨by rfl, ?_⟩
            conv => whnf
            refine ⟨by rfl, ?_⟩
            conv => whnf
            refine ⟨by rfl, ?_⟩
            conv => whnf
            refine ⟨by rfl, ?_⟩
            conv => whnf
            refine ⟨by rfl, ?_⟩
            conv => whnf
            refine ⟨by rfl, ?_⟩
            conv => whnf
            refine ⟨by rfl, ?_⟩
            conv => whnf
            exact trivial
          · intro x
            obtain ⟨⟨n, l, t, bb⟩, h1, h2, h3, h4, h5⟩ := x
            have h1 : n ≤ 4611686018427387904 := h1
            have h2 : t.length ≤ N := h2
            have h3 : l.length ≤ 1000001 := h3
            have h4 : bb = false → l.length + t.length ≤ N := h4
            have hmr : (l.map evE).length = l.length := List.length_map ..
            have hfin : n = 0 ∨ bb = true → tg (u12, l) t bb = pD (bdy s) := fun hq => pD_fin g15 g27 ((pV_end hq).symm.trans h5.symm)
            have hnx : ∀ (z : Ev) (s1 : List UInt8) (b1 : Bool), 0 < n → tg z s1 b1 = (st t bb).bind pE → (st u23 u24).bind (pV u22) = ((st s1 b1).bind fun t' => (pV (n - 1) t').bind fun r => some ((l ++ [z]) ++ r.1, r.2)) := fun z s1 b1 hn hz => by
              cases n with
              | zero => omega
              | succ m => exact h5.trans (pV_step hz)
            have fin2 : (n = 0 ∨ bb = true) → bb = true ∨ ¬ t = [] → DecQ s u12 l 11 := fun hq hr => by
              have hf := hfin hq
              refine decQ_e (hD.trans ?_) (by omega)
              cases bb with
              | true => exact body_n hf.symm
              | false =>
                rcases hr with hr | hr
                · cases hr
                · exact body_r hf.symm hr
            have fin3 : n = 0 ∨ bb = true → bb = false → t = [] → pD (bdy s) = some ((u12, l), []) := fun hq h6 h7 => by
              have hf := hfin hq
              rw [h6, h7] at hf
              exact hf.symm
            conv => whnf
            refine ⟨fun hh0 => ?_, fun hh0 => ?_⟩
            · simp only [decide_eq_true_eq, decide_eq_false_iff_not] at hh0
              conv => whnf
              refine ⟨fun hh1 => ?_, fun hh1 => ?_⟩
              · simp only [decide_eq_true_eq, decide_eq_false_iff_not] at hh1
                conv => whnf
                refine (revF_s _ _ (by first | omega | (dsimp only at *; omega) | assumption | decide | simp)).call [1] (by decide) trivial (And.intro rfl trivial) ?_
                rintro _ _ ⟨u2, u3, u4, rfl, rfl, g5, g6, g7, g8, g9⟩
                conv => whnf
                refine ⟨by simp; omega, ?_⟩
                conv => whnf
                (dsimp only at *; refine ⟨⟨(n - 1, l ++ [u2], u3, u4), by show n - 1 ≤ _; omega, by show u3.length ≤ N; omega, by rw [List.length_append]; have := h4 (by simpa using hh1); simp only [List.length_cons, List.length_nil]; omega, fun hq => by rw [List.length_append]; have := h4 (by simpa using hh1); have := orF g7 hq; simp only [List.length_cons, List.length_nil]; omega, hnx u2 u3 u4 (by omega) g5⟩, by show n - 1 < n; omega, .of [some 0, some 1, some 4] (by rfl) ?_⟩)
                conv => whnf
                refine ⟨by (dsimp only at *; exact (w64 _ (by omega) (by omega)).trans (by omega)), ?_⟩
                conv => whnf
                refine ⟨by rfl, ?_⟩
                conv => whnf
                refine ⟨by rfl, ?_⟩
                conv => whnf
                refine ⟨by rfl, ?_⟩
                conv => whnf
                refine ⟨by rfl, ?_⟩
                conv => whnf
                refine ⟨by rfl, ?_⟩
                conv => whnf
                refine ⟨by rfl, ?_⟩
                conv => whnf
                refine ⟨by rfl, ?_⟩
                conv => whnf
                refine ⟨by rfl, ?_⟩
                conv => whnf
                refine ⟨by rfl, ?_⟩
                conv => whnf
                refine ⟨by rfl, ?_⟩
                conv => whnf
                refine ⟨by rfl, ?_⟩
                conv => whnf
                refine ⟨by rfl, ?_⟩
                conv => whnf
                refine ⟨by rfl, ?_⟩
                conv => whnf
                refine ⟨by rfl, ?_⟩
                conv => whnf
                refine ⟨by rfl, ?_⟩
                conv => whnf
                refine ⟨by rfl, ?_⟩
                conv => whnf
                refine ⟨by rfl, ?_⟩
                conv => whnf
                refine ⟨by simp, ?_⟩
                conv => whnf
                exact trivial
              · simp only [decide_eq_true_eq, decide_eq_false_iff_not] at hh1
                conv => whnf
                refine .same ?_
                conv => whnf
                refine ⟨fun hh13 => ?_, fun hh13 => ?_⟩
                · simp only [decide_eq_true_eq, decide_eq_false_iff_not] at hh13
                  conv => whnf
                  (dsimp only at *; exact ⟨u12, l, 11, _, _, rfl, .refl _, .refl _, fin2 (.inr (by simpa using hh1)) (.inl (by simpa using hh13))⟩)
                · simp only [decide_eq_true_eq, decide_eq_false_iff_not] at hh13
                  conv => whnf
                  refine ⟨fun hh15 => ?_, fun hh15 => ?_⟩
                  · simp only [decide_eq_true_eq, decide_eq_false_iff_not] at hh15
                    conv => whnf
                    (dsimp only at *; exact ⟨u12, l, 11, _, _, rfl, .refl _, .refl _, fin2 (.inr (by simpa using hh1)) (.inr (by simpa using hh15))⟩)
                  · simp only [decide_eq_true_eq, decide_eq_false_iff_not] at hh15
                    conv => whnf
                    refine (cfv_s _ (by first | omega | (dsimp only at *; omega) | assumption | decide | simp)).call ?_
                    rintro _ rfl
                    conv => whnf
                    -- LOOP m=0 F=[SV.any, SV.any, (2, SV.ptr 0 0).snd, (3, SV.sl 2).snd, SV.any, SV.any, (6, SV.ptr 1 0).snd, (7, SV.int IntKind.i64 ↑⟨(n, l, t, bb), ⋯⟩.val.fst).snd, SV.bool (cfOk u12), SV.any, SV.any, SV.any, SV.any, SV.any, SV.any, SV.any, SV.any, SV.any, SV.any, SV.any, SV.any, SV.any, SV.any, SV.any, SV.any, SV.any, SV.any, SV.any, SV.any, SV.any, SV.any, SV.any, SV.any, SV.any, SV.any, SV.any, SV.any, SV.any, SV.any, SV.any, SV.any, SV.any, SV.any, SV.any, SV.any, SV.any, SV.any, SV.any, SV.any, SV.any, SV.any, ⋯] heap=[Blk.fix 71 (cfC u12), rdB ⟨(n, l, t, bb), ⋯⟩.val.snd.snd.fst ⟨(n, l, t, bb), ⋯⟩.val.snd.snd.snd, Blk.row 74 6 (List.map evE ⟨(n, l, t, bb), ⋯⟩.val.snd.fst)]
                    exfalso
                    have q1 : bb = true := by simpa using hh1
                    have q2 : bb = false := by simpa using hh13
                    rw [q1] at q2
                    cases q2
            · simp only [decide_eq_true_eq, decide_eq_false_iff_not] at hh0
              conv => whnf
              refine .same ?_
              conv => whnf
              refine ⟨fun hh27 => ?_, fun hh27 => ?_⟩
              · simp only [decide_eq_true_eq, decide_eq_false_iff_not] at hh27
                conv => whnf
                (dsimp only at *; exact ⟨u12, l, 11, _, _, rfl, .refl _, .refl _, fin2 (.inl (by omega)) (.inl (by simpa using hh27))⟩)
              · simp only [decide_eq_true_eq, decide_eq_false_iff_not] at hh27
                conv => whnf
                refine ⟨fun hh29 => ?_, fun hh29 => ?_⟩
                · simp only [decide_eq_true_eq, decide_eq_false_iff_not] at hh29
                  conv => whnf
                  (dsimp only at *; exact ⟨u12, l, 11, _, _, rfl, .refl _, .refl _, fin2 (.inl (by omega)) (.inr (by simpa using hh29))⟩)
                · simp only [decide_eq_true_eq, decide_eq_false_iff_not] at hh29
                  conv => whnf
                  refine (cfv_s _ (by first | omega | (dsimp only at *; omega) | assumption | decide | simp)).call ?_
                  rintro _ rfl
                  conv => whnf
                  -- LOOP m=0 F=[SV.any, SV.any, (2, SV.ptr 0 0).snd, (3, SV.sl 2).snd, SV.any, SV.any, (6, SV.ptr 1 0).snd, (7, SV.int IntKind.i64 ↑⟨(n, l, t, bb), ⋯⟩.val.fst).snd, SV.bool (cfOk u12), SV.any, SV.any, SV.any, SV.any, SV.any, SV.any, SV.any, SV.any, SV.any, SV.any, SV.any, SV.any, SV.any, SV.any, SV.any, SV.any, SV.any, SV.any, SV.any, SV.any, SV.any, SV.any, SV.any, SV.any, SV.any, SV.any, SV.any, SV.any, SV.any, SV.any, SV.any, SV.any, SV.any, SV.any, SV.any, SV.any, SV.any, SV.any, SV.any, SV.any, SV.any, SV.any, ⋯] heap=[Blk.fix 71 (cfC u12), rdB ⟨(n, l, t, bb), ⋯⟩.val.snd.snd.fst ⟨(n, l, t, bb), ⋯⟩.val.snd.snd.snd, Blk.row 74 6 (List.map evE ⟨(n, l, t, bb), ⋯⟩.val.snd.fst)]
                  have hb0 : bb = false := by simpa using hh27
                  have ht0 : t = [] := by simpa using hh29
                  have hp := fin3 (.inl (by dsimp only at *; omega)) hb0 ht0
                  refine LoopG.inv tab_ok 115 (fun y : { j : Nat // j ≤ l.length } => [(2, .ptr 0 0), (3, .sl 1), (8, .bool (cfOk u12 && evsOk (l.take y.1))), (90, .sl 1), (91, .int .i64 ((l.map evE).length : Int)), (92, .int .i64 (y.1 : Int))])
                    (fun y => [.fix 71 (cfC u12), .row 74 6 (l.map evE)]) (fun y => l.length - y.1) ⟨0, by omega⟩ (.of [some 0, some 2] (by rfl) ?_) ?_
                  · conv => whnf
                    refine ⟨by (exact (Bool.and_true _).symm), ?_⟩
                    conv => whnf
                    refine ⟨by rfl, ?_⟩
                    conv => whnf
                    refine ⟨by rfl, ?_⟩
                    conv => whnf
                    refine ⟨by rfl, ?_⟩
                    conv => whnf
                    refine ⟨by rfl, ?_⟩
                    conv => whnf
                    refine ⟨by rfl, ?_⟩
                    conv => whnf
                    refine ⟨by rfl, ?_⟩
                    conv => whnf
                    refine ⟨by rfl, ?_⟩
                    conv => whnf
                    refine ⟨by rfl, ?_⟩
                    conv => whnf
                    refine ⟨by rfl, ?_⟩
                    conv => whnf
                    refine ⟨by rfl, ?_⟩
                    conv => whnf
                    refine ⟨by rfl, ?_⟩
                    conv => whnf
                    refine ⟨by rfl, ?_⟩
                    conv => whnf
                    refine ⟨by rfl, ?_⟩
                    conv => whnf
                    refine ⟨by rfl, ?_⟩
                    conv => whnf
                    refine ⟨by rfl, ?_⟩
                    conv => whnf
                    refine ⟨by rfl, ?_⟩
                    conv => whnf
                    refine ⟨by rfl, ?_⟩
                    conv => whnf
                    refine ⟨by rfl, ?_⟩
                    conv => whnf
                    exact trivial
                  · intro y
                    have hy := y.2
                    conv => whnf
                    refine ⟨fun hj => ?_, fun hj => ?_⟩
                    · have hj : y.1 < l.length := by simp only [decide_eq_true_eq] at hj; omega
                      have st1 : (cfOk u12 && evsOk (l.take y.1)) = true → (cfOk u12 && evsOk (l.take (y.1 + 1))) = evOk (l.getD y.1 ev0) := fun hk => by
                        have hk1 : cfOk u12 = true := by rw [Bool.and_eq_true] at hk; exact hk.1
                        have hk2 : evsOk (l.take y.1) = true := by rw [Bool.and_eq_true] at hk; exact hk.2
                        rw [hk1, Bool.true_and]
                        unfold evsOk at *
                        rw [List.take_add_one, List.all_append, hk2, List.getElem?_eq_getElem hj]
                        simp [List.getD, List.getElem?_eq_getElem hj]
                      have st2 : (cfOk u12 && evsOk (l.take y.1)) = false → (cfOk u12 && evsOk (l.take (y.1 + 1))) = false := fun hk => by
                        rw [Bool.and_eq_false_iff] at hk ⊢
                        rcases hk with hk | hk
                        · exact .inl hk
                        · right
                          unfold evsOk at *
                          rw [List.take_add_one, List.all_append, hk, Bool.false_and]
                      conv => whnf
                      refine ⟨by omega, ?_⟩
                      conv => whnf
                      refine ⟨_, ev_get hj, ?_⟩
                      conv => whnf
                      refine ⟨fun hh1 => ?_, fun hh1 => ?_⟩
                      · simp only [decide_eq_true_eq, decide_eq_false_iff_not, Bool.not_eq_true, Bool.not_eq_false, Bool.not_eq_true', Bool.not_eq_false', Bool.and_eq_true, Bool.and_eq_false_iff, Int.not_lt, Int.not_le, Decidable.not_not, beq_iff_eq, Bool.not_eq_eq_eq_not, Bool.not_true, Bool.not_false, beq_eq_false_iff_ne, ne_eq, decide_eq_decide] at hh1
                        conv => whnf
                        refine (evv_s _).call ?_
                        rintro _ rfl
                        conv => whnf
                        (refine ⟨⟨y.1 + 1, by omega⟩, by show l.length - (y.1 + 1) < l.length - y.1; omega, .of [some 0, some 1] (by rfl) ?_⟩)
                        conv => whnf
                        refine ⟨by exact (st1 (by rw [Bool.and_eq_true]; exact hh1)).symm, ?_⟩
                        conv => whnf
                        refine ⟨by rfl, ?_⟩
                        conv => whnf
                        refine ⟨by exact (w64 _ (by omega) (by omega)).trans (by simp), ?_⟩
                        conv => whnf
                        refine ⟨by rfl, ?_⟩
                        conv => whnf
                        refine ⟨by rfl, ?_⟩
                        conv => whnf
                        refine ⟨by rfl, ?_⟩
                        conv => whnf
                        refine ⟨by rfl, ?_⟩
                        conv => whnf
                        refine ⟨by rfl, ?_⟩
                        conv => whnf
                        refine ⟨by rfl, ?_⟩
                        conv => whnf
                        refine ⟨by rfl, ?_⟩
                        conv => whnf
                        refine ⟨by rfl, ?_⟩
                        conv => whnf
                        refine ⟨by rfl, ?_⟩
                        conv => whnf
                        refine ⟨by rfl, ?_⟩
                        conv => whnf
                        refine ⟨by rfl, ?_⟩
                        conv => whnf
                        refine ⟨by rfl, ?_⟩
                        conv => whnf
                        refine ⟨by rfl, ?_⟩
                        conv => whnf
                        refine ⟨by rfl, ?_⟩
                        conv => whnf
                        refine ⟨by rfl, ?_⟩
                        conv => whnf
                        refine ⟨by rfl, ?_⟩
                        conv => whnf
                        exact trivial
                      · simp only [decide_eq_true_eq, decide_eq_false_iff_not, Bool.not_eq_true, Bool.not_eq_false, Bool.not_eq_true', Bool.not_eq_false', Bool.and_eq_true, Bool.and_eq_false_iff, Int.not_lt, Int.not_le, Decidable.not_not, beq_iff_eq, Bool.not_eq_eq_eq_not, Bool.not_true, Bool.not_false, beq_eq_false_iff_ne, ne_eq, decide_eq_decide] at hh1
                        conv => whnf
                        (refine ⟨⟨y.1 + 1, by omega⟩, by show l.length - (y.1 + 1) < l.length - y.1; omega, .of [some 0, some 1] (by rfl) ?_⟩)
                        conv => whnf
                        refine ⟨by exact (st2 (by rw [Bool.and_eq_false_iff]; exact hh1)).symm, ?_⟩
                        conv => whnf
                        refine ⟨by rfl, ?_⟩
                        conv => whnf
                        refine ⟨by exact (w64 _ (by omega) (by omega)).trans (by simp), ?_⟩
                        conv => whnf
                        refine ⟨by rfl, ?_⟩
                        conv => whnf
                        refine ⟨by rfl, ?_⟩
                        conv => whnf
                        refine ⟨by rfl, ?_⟩
                        conv => whnf
                        refine ⟨by rfl, ?_⟩
                        conv => whnf
                        refine ⟨by rfl, ?_⟩
                        conv => whnf
                        refine ⟨by rfl, ?_⟩
                        conv => whnf
                        refine ⟨by rfl, ?_⟩
                        conv => whnf
                        refine ⟨by rfl, ?_⟩
                        conv => whnf
                        refine ⟨by rfl, ?_⟩
                        conv => whnf
                        refine ⟨by rfl, ?_⟩
                        conv => whnf
                        refine ⟨by rfl, ?_⟩
                        conv => whnf
                        refine ⟨by rfl, ?_⟩
                        conv => whnf
                        refine ⟨by rfl, ?_⟩
                        conv => whnf
                        refine ⟨by rfl, ?_⟩
                        conv => whnf
                        refine ⟨by rfl, ?_⟩
                        conv => whnf
                        refine ⟨by rfl, ?_⟩
                        conv => whnf
                        exact trivial
                    · have hj : l.length ≤ y.1 := by simp only [decide_eq_false_iff_not] at hj; omega
                      have et : l.take y.1 = l := List.take_of_length_le hj
                      conv => whnf
                      refine .same ?_
                      conv => whnf
                      refine ⟨fun hk => ?_, fun hk => ?_⟩
                      · have hk : (cfOk u12 && evsOk l) = false := by rw [et, Bool.not_eq_true'] at hk; exact hk
                        conv => whnf
                        exact ⟨u12, l, 1, _, _, rfl, .refl _, .refl _, decQ_e (hD.trans (body_i hp hk)) (by omega)⟩
                      · have hk : (cfOk u12 && evsOk l) = true := by rw [et, Bool.not_eq_false'] at hk; exact hk
                        conv => whnf
                        refine ⟨fun hg => ?_, fun hg => ?_⟩
                        · have hg : 4096 < l.length := by simp only [decide_eq_true_eq] at hg; omega
                          conv => whnf
                          exact ⟨u12, l, 4, _, _, rfl, .refl _, .refl _, decQ_e (hD.trans (body_f hp hk hg)) (by omega)⟩
                        · have hg : ¬ 4096 < l.length := by simp only [decide_eq_false_iff_not] at hg; omega
                          conv => whnf
                          exact ⟨u12, l, 0, _, _, rfl, .refl _, .refl _, decQ_o (hD.trans (body_o hp hk hg))⟩

theorem sle_c0 : SLe (.agg [.int .i64 0, .int .i64 0, .int .i64 0, .int .i64 0, .int .i64 0, .int .i64 0, .int .i64 0, .int .i64 0, .int .i64 0, .int .i64 0, .int .i64 0, .int .i64 0, .int .i64 0, .int .i64 0, .nils]) (cfE c0) :=
  .agg (.app (a := cf14 c0) (a' := cf14 c0) (.refl _) (.cons .nil .nil))
theorem decode_s (s : List UInt8) (hs : s.length ≤ 9223372036854775807) : PSpec Try.prog 54 [.str s] (· = .tup [cfE (decR s).1, .rs 6 ((decR s).2.1.map evE), .int .i64 (decR s).2.2]) := by
  refine PSpec.weak (R := fun v => ∃ c l e, v = .tup [c, l, .int .i64 e] ∧ e = (decR s).2.2 ∧ SLe c (cfE (decR s).1) ∧ SLe l (.rs 6 ((decR s).2.1.map evE))) ?_ (fun v ⟨c, l, e, h1, h2, h3, h4⟩ => ⟨_, rfl, by subst h1; subst h2; exact .tup (.cons h3 (.cons h4 (.cons (.refl _) .nil)))⟩)
  have hw : PSpec Try.prog 98 [.str s] (fun v => ∃ (c : Cf) (l : List Ev) (e : Int), v = .tup [cfE c, .rs 6 (l.map evE), .int .i64 e] ∧ DecQ s c l e) :=
    (decodeW_s s hs).weak fun v ⟨c, l, e, X, Y, h1, h2, h3, h4⟩ => ⟨_, ⟨c, l, e, rfl, h4⟩, by subst h1; exact .tup (.cons (.agg (.app (.refl _) (.cons h2 .nil))) (.cons h3 (.cons (.refl _) .nil)))⟩
  refine .of_codeF tab_ok Try.func54 (by rfl) rfl trivial ?_
  conv => whnf
  refine hw.call ?_
  rintro _ ⟨c, l, e, rfl, h1, h2⟩
  conv => whnf
  refine ⟨fun he => ?_, fun he => ?_⟩
  · have he : e ≠ 0 := by simpa using he
    have hd := h2 he
    conv => whnf
    exact ⟨_, _, e, rfl, by rw [hd], by rw [hd]; exact sle_c0, by rw [hd]; exact .nil⟩
  · have he : e = 0 := by simpa using he
    have hd := h1 he
    conv => whnf
    exact ⟨_, _, 0, rfl, by rw [hd], by rw [hd]; exact .refl _, by rw [hd]; exact .refl _⟩
end Go.Proofs.Ytdommpfnoiemkaa

/- Chapter 8: the statements' helpers. -/
namespace Go.Proofs.Ytdommpfnoiemkaa
open Go.Sx
set_option linter.unusedSimpArgs false
set_option linter.unusedVariables false
def prtL : List Int := [0, 1, 80, 90, 65535, 443]
def lifL : List Int := [0, 0, 1, 3, 65535]
def hdX (ls : List Int) (a : Int) : Hd := ⟨ggL.getD (nxt ls a 8).toNat [], nxt ls (a + 1) 8, prtL.getD (nxt ls (a + 1 + 1) 6).toNat 0, glL.getD (nxt ls (a + 1 + 1 + 1) 7).toNat 0, lifL.getD (nxt ls (a + 1 + 1 + 1 + 1) 5).toNat 0⟩
def namL : List (List UInt8) := [[97], [97, 110, 110], [65, 110, 110], [65, 78, 78], [98, 45, 49], [195, 132, 98], [195, 164, 98], [206, 145, 120], [206, 177, 120], [97, 46, 98, 95, 99], [195, 151], [122, 57], [], [97, 32, 98], [97, 42], [255], [239, 191, 189],
  [97, 97, 97, 97, 97, 97, 97, 97, 97, 97, 97, 97, 97, 97, 97, 97, 97, 97, 97, 97, 97, 97, 97, 97], [97, 97, 97, 97, 97, 97, 97, 97, 97, 97, 97, 97, 97, 97, 97, 97, 97, 97, 97, 97, 97, 97, 97, 97, 97], [240, 159, 152, 128]]
theorem gname_s (ls : List Int) (a : Int) (h0 : 0 ≤ a) (h1 : a < 9223372036854775800) :
    OSpec Try.prog 18 [.ptr 0 0] [chs ls a] fun s ho => s = .str (namL.getD (nxt ls a 20).toNat []) ∧ ho = [chs ls (a + 1)] := by
  refine .of_code tab_ok Try.func18 (by rfl) rfl trivial ?_
  have n0 := nxt_lo ls a 20
  have n1 := nxt_hi ls a 20 (by omega)
  conv => whnf
  refine (next_s _ _ _ (by first | omega | assumption | decide | simp) (by first | omega | assumption | decide | simp) (by first | omega | assumption | decide | simp)).call [0] (by decide) (And.intro rfl trivial) (And.intro rfl trivial) ?_
  rintro _ _ ⟨rfl, rfl⟩
  conv => whnf
  refine ⟨by simp; omega, ?_⟩
  conv => whnf
  refine ⟨_, gg_get (l := namL) n0 n1, ?_⟩
  conv => whnf
  refine ⟨by rfl, ?_⟩
  conv => whnf
theorem header_s (ls : List Int) (a : Int) (h0 : 0 ≤ a) (h1 : a < 9223372036854775700) :
    OSpec Try.prog 15 [.ptr 0 0] [chs ls a] fun s ho => s = hdE (hdX ls a) ∧ ho = [chs ls (a + 5)] := by
  refine .of_code tab_ok Try.func15 (by rfl) rfl trivial ?_
  have n0 := nxt_lo ls (a + 1 + 1) 6
  have n1 := nxt_hi ls (a + 1 + 1) 6 (by omega)
  have m0 := nxt_lo ls (a + 1 + 1 + 1 + 1) 5
  have m1 := nxt_hi ls (a + 1 + 1 + 1 + 1) 5 (by omega)
  conv => whnf
  refine DrawG.of mixed tab_ok ?_
  conv => whnf
  refine (ggood_s _ _ (by first | omega | assumption | decide | simp) (by first | omega | assumption | decide | simp)).calld [0] (by decide) rfl trivial (And.intro rfl trivial) ?_
  conv => whnf
  refine (next_s _ _ _ (by first | omega | assumption | decide | simp) (by first | omega | assumption | decide | simp) (by first | omega | assumption | decide | simp)).calld [0] (by decide) rfl (And.intro rfl trivial) (And.intro rfl trivial) ?_
  conv => whnf
  refine (next_s _ _ _ (by first | omega | assumption | decide | simp) (by first | omega | assumption | decide | simp) (by first | omega | assumption | decide | simp)).calld [0] (by decide) rfl (And.intro rfl trivial) (And.intro rfl trivial) ?_
  conv => whnf
  refine ⟨by simp; omega, ?_⟩
  conv => whnf
  refine ⟨_, gl_get (l := prtL) n0 n1, ?_⟩
  conv => whnf
  refine (glen_s _ _ (by first | omega | assumption | decide | simp) (by first | omega | assumption | decide | simp)).calld [0] (by decide) rfl trivial (And.intro rfl trivial) ?_
  conv => whnf
  refine (next_s _ _ _ (by first | omega | assumption | decide | simp) (by first | omega | assumption | decide | simp) (by first | omega | assumption | decide | simp)).calld [0] (by decide) rfl (And.intro rfl trivial) (And.intro rfl trivial) ?_
  conv => whnf
  refine ⟨by simp; omega, ?_⟩
  conv => whnf
  refine ⟨_, gl_get (l := lifL) m0 m1, ?_⟩
  conv => whnf
  refine ⟨by kernel_rfl, ?_⟩
  conv => whnf
  refine ⟨by rfl, ?_⟩
  conv => whnf
  exact congrArg (fun z => [chs ls z]) (by omega)
theorem gg_ok : ∀ k, k < 8 → nameOk (ggL.getD k []) = true := by decide +kernel
theorem getD_all {l : List Int} {p : Int → Prop} (h : ∀ x ∈ l, p x) {i : Int} (h0 : 0 ≤ i) (h1 : i < l.length) : p (l.getD i.toNat 0) := by
  have : i.toNat < l.length := by omega
  rw [List.getD_eq_getElem?_getD, List.getElem?_eq_getElem this]
  exact h _ (List.getElem_mem this)
theorem hdX_ok (ls : List Int) (a : Int) : hdOk (hdX ls a) = true := by
  refine hdOk_t (gg_ok _ ?_) ?_
  · have := nxt_lo ls a 8; have := nxt_hi ls a 8 (by omega); omega
  · have c0 := nxt_lo ls (a + 1) 8
    have c1 := nxt_hi ls (a + 1) 8 (by omega)
    have p := getD_all (l := prtL) (p := fun x => 0 ≤ x ∧ x ≤ 65535) (by decide) (nxt_lo ls (a + 1 + 1) 6) (nxt_hi ls (a + 1 + 1) 6 (by omega))
    have l := getD_all (l := glL) (p := fun x => 1 ≤ x ∧ x ≤ 4096) (by decide) (nxt_lo ls (a + 1 + 1 + 1) 7) (nxt_hi ls (a + 1 + 1 + 1) 7 (by omega))
    have f := getD_all (l := lifL) (p := fun x => 0 ≤ x ∧ x ≤ 65535) (by decide) (nxt_lo ls (a + 1 + 1 + 1 + 1) 5) (nxt_hi ls (a + 1 + 1 + 1 + 1) 5 (by omega))
    exact ⟨c0, by show nxt ls (a + 1) 8 ≤ 7; omega, p.1, p.2, l.1, l.2, f.1, f.2⟩
theorem nam_len : ∀ k, (namL.getD k []).length ≤ 25 := by
  intro k
  by_cases h : k < 20
  · revert k; decide
  · simp [List.getD, List.getElem?_eq_none (show namL.length ≤ k by simp [namL]; omega)]
theorem fmt_cases (h : Hd) : fmtR h = .tup [.str (recD h), .int .i64 0] ∨ fmtR h = .tup [.str [], .int .i64 1] := by
  unfold fmtR; cases hdOk h <;> simp
theorem formats_s (st : List UInt8) (c p l f : Int) (hs : st.length ≤ 1000) : PSpec Try.prog 16 [.agg [.str st, .int .i64 c, .int .i64 p, .int .i64 l, .int .i64 f]] (· = .bool true) := by
  refine .of_code' tab_ok Try.func16 (by rfl) rfl trivial ?_
  conv => whnf
  refine (format_s ⟨st, c, p, l, f⟩ hs).call ?_
  rintro _ rfl
  obtain ⟨x, y, e⟩ : ∃ x y, fmtR ⟨st, c, p, l, f⟩ = .tup [.str x, .int .i64 y] := (fmt_cases _).elim (fun e => ⟨_, _, e⟩) (fun e => ⟨_, _, e⟩)
  rw [e]
  conv => whnf
  refine (rformat_s ⟨st, c, p, l, f⟩ hs).call ?_
  rintro _ rfl
  rw [e]
  conv => whnf
  refine DrawG.of mixed tab_ok ?_
  conv => whnf
  refine (pvalid2_s _ _ _ _ _).calld ?_
  conv => whnf
  refine (rvalidh2_s _ _ _ _ _ (by first | omega | assumption | decide | simp)).calld ?_
  conv => whnf
  refine both_t (by simp) ?_
  conv => whnf
  refine both_t (by simp) ?_
  conv => whnf
  refine ⟨by kernel_rfl, ?_⟩
  conv => whnf
  simp
theorem awake8_s : PSpec Try.prog 19 [] (· = .bool true) := by
  refine .of_code' tab_ok Try.func19 (by rfl) rfl trivial ?_
  conv => whnf
  refine (format_s ⟨[97], 0, 0, 1, 0⟩ (by simp)).call ?_
  rintro _ rfl
  rw [show fmtR ⟨[97], 0, 0, 1, 0⟩ = .tup [.str (recD ⟨[97], 0, 0, 1, 0⟩), .int .i64 0] from by unfold fmtR; rw [show hdOk ⟨[97], 0, 0, 1, 0⟩ = true from by decide +kernel]; rfl]
  conv => whnf
  refine (csum_s _ (by first | omega | assumption | decide | simp)).call ?_
  rintro _ rfl
  conv => whnf
  refine both_t rfl ?_
  conv => whnf
  refine both_t rfl ?_
  conv => whnf
  rfl
theorem parses_s (s : List UInt8) (hs : s.length ≤ 900) : PSpec Try.prog 21 [.str s] (· = .bool true) := by
  refine .of_code' tab_ok Try.func21 (by rfl) rfl trivial ?_
  conv => whnf
  refine (parse_s _ (by first | omega | assumption | decide | simp)).call ?_
  rintro _ rfl
  conv => whnf
  refine (rparse_s _ (by first | omega | assumption | decide | simp)).call ?_
  rintro _ rfl
  conv => whnf
  refine (csum_s _ (by first | omega | assumption | decide | simp)).call ?_
  rintro _ rfl
  conv => whnf
  refine (rcsum_s _ (by first | omega | assumption | decide | simp)).call ?_
  rintro _ rfl
  conv => whnf
  refine both_t (by simp) ?_
  conv => whnf
  refine both_t (by simp) ?_
  conv => whnf
  simp [*]
end Go.Proofs.Ytdommpfnoiemkaa

/- Chapter 8: a header is read back from its record, a record from its header; damage is seen. In plain Lean. -/
namespace Go.Proofs.Ytdommpfnoiemkaa
open Go.Sx
set_option linter.unusedSimpArgs false
set_option linter.unusedVariables false
theorem byt_l {a b : List UInt8} {i : Nat} (h : i < a.length) : byt (a ++ b) i = byt a i := by simp [byt, List.getD, List.getElem?_append_left h]
theorem byt_r {a b : List UInt8} {i : Nat} (h : a.length ≤ i) : byt (a ++ b) i = byt b (i - a.length) := by simp [byt, List.getD, List.getElem?_append_right h]
theorem two_len (n : Int) : (twoB n).length = 2 := rfl
theorem two_0 {n : Int} (h0 : 0 ≤ n) (h1 : n ≤ 65535) : byt (twoB n) 0 = n / 256 := u8_nat (z := n / 256) (by omega) (by omega)
theorem two_1 {n : Int} (h0 : 0 ≤ n) (h1 : n ≤ 65535) : byt (twoB n) 1 = n % 256 := u8_nat (z := n % 256) (by omega) (by omega)
theorem recB_len (h : Hd) : (recB h).length = 10 + h.st.length := by simp [recB, twoB]; omega
theorem recD_len (h : Hd) : (recD h).length = 12 + h.st.length := by rw [recD, List.length_append, recB_len, two_len]; omega
theorem recB_byt (h : Hd) (hp : hdP h) (hn : h.st.length ≤ 255) : byt (recB h) 0 = 165 ∧ byt (recB h) 1 = 1 ∧ byt (recB h) 2 = h.c ∧ byt (recB h) 3 = h.p / 256 ∧ byt (recB h) 4 = h.p % 256 ∧ byt (recB h) 5 = h.l / 256 ∧ byt (recB h) 6 = h.l % 256 ∧ byt (recB h) 7 = h.f / 256 ∧ byt (recB h) 8 = h.f % 256 ∧ byt (recB h) 9 = (h.st.length : Int) := by
  unfold hdP at hp
  have e : ((UInt8.ofNat h.st.length).toNat : Int) = (h.st.length : Int) := by
    have := u8_nat (z := (h.st.length : Int)) (by omega) (by omega)
    simpa using this
  exact ⟨rfl, rfl, u8_nat (z := h.c) (by omega) (by omega), u8_nat (z := h.p / 256) (by omega) (by omega), u8_nat (z := h.p % 256) (by omega) (by omega), u8_nat (z := h.l / 256) (by omega) (by omega), u8_nat (z := h.l % 256) (by omega) (by omega),
    u8_nat (z := h.f / 256) (by omega) (by omega), u8_nat (z := h.f % 256) (by omega) (by omega), e⟩
theorem recD_take (h : Hd) : (recD h).take ((recD h).length - 2) = recB h := by
  rw [recD_len, recD, show 12 + h.st.length - 2 = (recB h).length from by rw [recB_len]; omega, List.take_left]
theorem recD_num (h : Hd) : numB (recD h) ((recD h).length - 2) = ckV (recB h) := by
  have r := ckV_rng (recB h)
  have e : (recD h).length - 2 = (recB h).length := by rw [recD_len, recB_len]; omega
  rw [e, numB, recD, byt_r (Nat.le_refl _), byt_r (by omega), Nat.sub_self, show (recB h).length + 1 - (recB h).length = 1 from by omega, two_0 (by omega) (by omega), two_1 (by omega) (by omega)]
  omega
theorem prs_rec (h : Hd) (hv : hdOk h = true) : prsR (recD h) = (h, 0) := by
  obtain ⟨hn, hp⟩ := hdOk_of hv
  have hl := nameOk_len hn
  obtain ⟨b0, b1, b2, b3, b4, b5, b6, b7, b8, b9⟩ := recB_byt h hp (by omega)
  have hlen := recD_len h
  have hlB := recB_len h
  have gb : ∀ i, i < 10 → byt (recD h) i = byt (recB h) i := fun i hi => byt_l (by omega)
  have eH : prsH (recD h) = h := by
    unfold prsH
    rw [recD_take]
    have e0 : (recB h).drop 10 = h.st := rfl
    have e3 : numB (recD h) 3 = h.p := by unfold numB; rw [gb 3 (by omega), gb 4 (by omega), b3, b4]; omega
    have e5 : numB (recD h) 5 = h.l := by unfold numB; rw [gb 5 (by omega), gb 6 (by omega), b5, b6]; omega
    have e7 : numB (recD h) 7 = h.f := by unfold numB; rw [gb 7 (by omega), gb 8 (by omega), b7, b8]; omega
    rw [e0, e3, e5, e7, gb 2 (by omega), b2]
  rw [prs_g (s := recD h) (by omega) rfl (by rw [gb 9 (by omega), b9, hlen]; omega) (by rw [recD_num, recD_take]) (by rw [eH]; exact hv), eH]
theorem prs_inv {s : List UInt8} (h : (prsR s).2 = 0) : 12 ≤ s.length ∧ s.take 2 = [165, 1] ∧ 12 + byt s 9 = (s.length : Int) ∧ numB s (s.length - 2) = ckV (s.take (s.length - 2)) ∧ hdOk (prsH s) = true ∧ (prsR s).1 = prsH s := by
  unfold prsR at h ⊢
  by_cases h1 : s.length < 12
  · rw [if_pos h1] at h; simp at h
  rw [if_neg h1] at h ⊢
  by_cases h2 : ¬ s.take 2 = [165, 1]
  · rw [if_pos h2] at h; simp at h
  rw [if_neg h2] at h ⊢
  by_cases h3 : (s.length : Int) < 12 + byt s 9
  · rw [if_pos h3] at h; simp at h
  rw [if_neg h3] at h ⊢
  by_cases h4 : 12 + byt s 9 < (s.length : Int)
  · rw [if_pos h4] at h; simp at h
  rw [if_neg h4] at h ⊢
  by_cases h5 : ¬ numB s (s.length - 2) = ckV (s.take (s.length - 2))
  · rw [if_pos h5] at h; simp at h
  rw [if_neg h5] at h ⊢
  by_cases h6 : hdOk (prsH s) = true
  · rw [if_pos h6]
    exact ⟨by omega, Decidable.not_not.1 h2, by omega, Decidable.not_not.1 h5, h6, rfl⟩
  · rw [if_neg h6] at h; simp at h
theorem prs_bad {s : List UInt8} (h : (prsR s).2 ≠ 0) : (prsR s).1 = hd0 := by
  unfold prsR at h ⊢
  repeat' split
  all_goals first | rfl | skip
  rename_i h1 h2 h3 h4 h5 h6
  rw [if_neg h1, if_neg h2, if_neg h3, if_neg h4, if_neg h5, if_pos h6] at h
  exact absurd rfl h
theorem u8_byt (s : List UInt8) (i : Nat) : UInt8.ofNat (byt s i).toNat = s.getD i 0 := by
  unfold byt; rw [Int.toNat_natCast]; simp
theorem two_num (s : List UInt8) (i : Nat) : twoB (numB s i) = [s.getD i 0, s.getD (i + 1) 0] := by
  have a := byt_rng s i
  have b := byt_rng s (i + 1)
  unfold twoB numB
  rw [show (256 * byt s i + byt s (i + 1)) / 256 = byt s i from by omega, show (256 * byt s i + byt s (i + 1)) % 256 = byt s (i + 1) from by omega, u8_byt, u8_byt]
theorem split2 {s : List UInt8} {n : Nat} (h : s.length = n + 2) : s = s.take n ++ [s.getD n 0, s.getD (n + 1) 0] := by
  apply List.ext_getElem?
  intro i
  by_cases hi : i < n
  · rw [List.getElem?_append_left (by simp; omega), List.getElem?_take_of_lt hi]
  · rw [List.getElem?_append_right (by simp; omega), List.length_take, show min n s.length = n from by omega]
    by_cases h0 : i = n
    · subst h0; simp [List.getD, List.getElem?_eq_getElem (show i < s.length by omega)]
    · by_cases h1 : i = n + 1
      · subst h1; rw [show n + 1 - n = 1 from by omega]; simp [List.getD, List.getElem?_eq_getElem (show n + 1 < s.length by omega)]
      · rw [List.getElem?_eq_none (by omega), List.getElem?_eq_none (by simp; omega)]
theorem split10 {t : List UInt8} (h : 10 ≤ t.length) : t = [t.getD 0 0, t.getD 1 0, t.getD 2 0, t.getD 3 0, t.getD 4 0, t.getD 5 0, t.getD 6 0, t.getD 7 0, t.getD 8 0, t.getD 9 0] ++ t.drop 10 := by
  match t, h with
  | a0 :: a1 :: a2 :: a3 :: a4 :: a5 :: a6 :: a7 :: a8 :: a9 :: r, _ => rfl
theorem rec_prs {s : List UInt8} (h : (prsR s).2 = 0) : recD (prsR s).1 = s := by
  obtain ⟨h1, h2, h3, h4, h5, h6⟩ := prs_inv h
  rw [h6]
  have b9 := byt_rng s 9
  have gt : ∀ i, i < s.length - 2 → (s.take (s.length - 2)).getD i 0 = s.getD i 0 := fun i hi => by simp [List.getD, List.getElem?_take_of_lt hi]
  have e2 : s.getD 0 0 = 165 ∧ s.getD 1 0 = 1 := by
    match s, h1, h2 with
    | a :: b :: r, _, h2 => simp at h2; exact ⟨h2.1, h2.2⟩
  have eB : recB (prsH s) = s.take (s.length - 2) := by
    rw [split10 (t := s.take (s.length - 2)) (by simp; omega), gt 0 (by omega), gt 1 (by omega), gt 2 (by omega), gt 3 (by omega), gt 4 (by omega), gt 5 (by omega), gt 6 (by omega), gt 7 (by omega), gt 8 (by omega), gt 9 (by omega)]
    unfold recB prsH
    simp only
    rw [two_num, two_num, two_num, u8_byt, e2.1, e2.2]
    have el : UInt8.ofNat ((s.take (s.length - 2)).drop 10).length = s.getD 9 0 := by
      rw [← u8_byt]
      congr 1
      rw [List.length_drop, List.length_take]
      omega
    rw [el]
    rfl
  rw [recD, eB, ← h4, two_num]
  exact (split2 (s := s) (n := s.length - 2) (by omega)).symm
theorem byt_set {s : List UInt8} {i j : Nat} {b : UInt8} (h : i < s.length) : byt (s.set i b) j = if j = i then (b.toNat : Int) else byt s j := by
  unfold byt
  by_cases e : j = i
  · subst e; simp [List.getD, h]
  · rw [if_neg e]; simp [List.getD, List.getElem?_set_ne (Ne.symm e)]
theorem ckA_set {s : List UInt8} {i : Nat} {b : UInt8} (h : i < s.length) : ∀ k, ckA (s.set i b) k = (ckA s k + (if i < k then (b.toNat : Int) - byt s i else 0)) % 255 := by
  intro k
  induction k with
  | zero => simp [ckA]
  | succ k ih =>
    have r := ckA_rng s k
    simp only [ckA]
    rw [ih, byt_set h]
    by_cases e : k = i
    · subst e
      rw [if_pos rfl, if_neg (by omega), if_pos (by omega)]
      omega
    · rw [if_neg e]
      by_cases e2 : i < k
      · rw [if_pos e2, if_pos (by omega)]; omega
      · rw [if_neg e2, if_neg (by omega)]; omega
theorem damage {h : Hd} (hv : hdOk h = true) {i : Nat} {b : UInt8} (hi : i < (recD h).length) (h1 : byt (recD h) i ≠ (b.toNat : Int)) (h2 : ¬ (byt (recD h) i = 0 ∧ (b.toNat : Int) = 255)) (h3 : ¬ (byt (recD h) i = 255 ∧ (b.toNat : Int) = 0)) : (prsR ((recD h).set i b)).2 ≠ 0 := by
  intro h0
  obtain ⟨_, _, _, h4, _, _⟩ := prs_inv h0
  have hl := recD_len h
  have r := byt_rng (recD h) i
  have rb := b.toNat_lt
  rw [List.length_set, List.take_set] at h4
  by_cases hk : i < (recD h).length - 2
  · have e1 : numB ((recD h).set i b) ((recD h).length - 2) = numB (recD h) ((recD h).length - 2) := by
      unfold numB; rw [byt_set hi, byt_set hi, if_neg (by omega), if_neg (by omega)]
    rw [e1, recD_num, recD_take] at h4
    have hiB : i < (recB h).length := by rw [recB_len]; omega
    have e2 : byt (recD h) i = byt (recB h) i := byt_l hiB
    have a := ckA_rng (recB h) (recB h).length
    have bb := ckB_rng (recB h) (recB h).length
    have a2 := ckA_rng ((recB h).set i b) (recB h).length
    have b2 := ckB_rng ((recB h).set i b) (recB h).length
    have c := ckA_set (b := b) hiB (recB h).length
    rw [if_pos hiB] at c
    unfold ckV at h4
    rw [List.length_set] at h4
    omega
  · have e9 : (recB h).set i b = recB h := List.set_eq_of_length_le (by rw [recB_len]; omega)
    rw [recD_take, e9, ← recD_num] at h4
    unfold numB at h4
    rw [byt_set hi, byt_set hi] at h4
    have r1 := byt_rng (recD h) ((recD h).length - 2)
    have r2 := byt_rng (recD h) ((recD h).length - 2 + 1)
    by_cases e : i = (recD h).length - 2
    · rw [if_pos e.symm, if_neg (by omega), ← e] at h4; omega
    · have e3 : i = (recD h).length - 2 + 1 := by omega
      rw [if_neg (by omega), if_pos e3.symm, ← e3] at h4; omega
end Go.Proofs.Ytdommpfnoiemkaa
