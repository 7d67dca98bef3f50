/- Chapter 8: names, in plain Lean. -/
import Derived.Test.YtdommpfnoiemkaaPkt
import Derived.Laws.RangeAny
namespace Go.Proofs.Ytdommpfnoiemkaa
open Go.Sx
set_option linter.unusedSimpArgs false
set_option linter.unusedVariables false
def LetP (r : Int) : Prop := 97 ≤ r ∧ r ≤ 122 ∨ 65 ≤ r ∧ r ≤ 90 ∨ 48 ≤ r ∧ r ≤ 57 ∨ r = 45 ∨ r = 95 ∨ r = 46 ∨ 161 ≤ r ∧ r ≠ 65533
instance (r : Int) : Decidable (LetP r) := by unfold LetP; infer_instance
def letR (r : Int) : Bool := decide (LetP r)
def bA (s : List UInt8) : ByteArray := ⟨s.toArray⟩
theorem bA_size (s : List UInt8) : (bA s).size = s.length := by simp [bA, ByteArray.size]
theorem bA_get (s : List UInt8) (i : Nat) : (bA s).get! i = s.getD i 0 := by
  show (s.toArray)[i]! = _
  simp [List.getD]
  rfl
def nameG (s : ByteArray) : Nat → Nat → Bool
  | 0, _ => true
  | b + 1, p => if p < s.size then letR (Utf8.decode s p).1 && nameG s b (p + (Utf8.decode s p).2) else true
theorem width1 (s : ByteArray) (p : Nat) (h : p < s.size) : 1 ≤ (Utf8.decode s p).2 := by
  by_cases ha : (s[p]'h).toNat < 128
  · rw [decode_ascii s p h ha]; exact Nat.le_refl _
  · exact (decode_high s p h (by omega)).2
theorem nameG_fuel (s : ByteArray) : ∀ (b p b' : Nat), s.size ≤ p + b → s.size ≤ p + b' → nameG s b p = nameG s b' p := by
  intro b
  induction b with
  | zero =>
    intro p b' h h'
    cases b' with
    | zero => rfl
    | succ b' => simp only [nameG]; rw [if_neg (by omega)]
  | succ b ih =>
    intro p b' h h'
    by_cases hp : p < s.size
    · have hw := width1 s p hp
      cases b' with
      | zero => omega
      | succ b' => simp only [nameG]; rw [if_pos hp, if_pos hp, ih _ b' (by omega) (by omega)]
    · cases b' with
      | zero => simp only [nameG]; rw [if_neg hp]
      | succ b' => simp only [nameG]; rw [if_neg hp, if_neg hp]
def nmF (s : ByteArray) (p : Nat) : Bool := nameG s s.size p
theorem nmF_step {s : ByteArray} {p : Nat} (h : p < s.size) : nmF s p = (letR (Utf8.decode s p).1 && nmF s (p + (Utf8.decode s p).2)) := by
  have hw := width1 s p h
  unfold nmF
  rw [nameG_fuel s s.size p (s.size + 1) (by omega) (by omega)]
  simp only [nameG]; rw [if_pos h]
theorem nmF_end {s : ByteArray} {p : Nat} (h : s.size ≤ p) : nmF s p = true := by
  unfold nmF
  rw [nameG_fuel s s.size p 0 (by omega) (by omega)]
  rfl
def nameOk (s : List UInt8) : Bool := nmF (bA s) 0 && decide (1 ≤ s.length ∧ s.length ≤ 24)
/-- What the reference decodes at a place. -/
theorem dec_eq (s : List UInt8) (i : Nat) (hi : i < s.length) : Utf8.decode (bA s) i =
    if (s.getD i 0).toNat < 128 then ((s.getD i 0).toNat, 1)
    else if 194 ≤ (s.getD i 0).toNat ∧ (s.getD i 0).toNat < 224 ∧ i + 1 < s.length ∧ 128 ≤ (s.getD (i + 1) 0).toNat ∧ (s.getD (i + 1) 0).toNat < 192 then (((s.getD i 0).toNat - 192) * 64 + ((s.getD (i + 1) 0).toNat - 128), 2)
    else if 224 ≤ (s.getD i 0).toNat ∧ (s.getD i 0).toNat < 240 ∧ i + 2 < s.length ∧ 128 ≤ (s.getD (i + 1) 0).toNat ∧ (s.getD (i + 1) 0).toNat < 192 ∧ 128 ≤ (s.getD (i + 2) 0).toNat ∧ (s.getD (i + 2) 0).toNat < 192
        ∧ 2048 ≤ (((s.getD i 0).toNat - 224) * 64 + ((s.getD (i + 1) 0).toNat - 128)) * 64 + ((s.getD (i + 2) 0).toNat - 128)
        ∧ ¬ (55296 ≤ (((s.getD i 0).toNat - 224) * 64 + ((s.getD (i + 1) 0).toNat - 128)) * 64 + ((s.getD (i + 2) 0).toNat - 128) ∧ (((s.getD i 0).toNat - 224) * 64 + ((s.getD (i + 1) 0).toNat - 128)) * 64 + ((s.getD (i + 2) 0).toNat - 128) < 57344)
      then ((((s.getD i 0).toNat - 224) * 64 + ((s.getD (i + 1) 0).toNat - 128)) * 64 + ((s.getD (i + 2) 0).toNat - 128), 3)
    else if 240 ≤ (s.getD i 0).toNat ∧ (s.getD i 0).toNat < 245 ∧ i + 3 < s.length ∧ 128 ≤ (s.getD (i + 1) 0).toNat ∧ (s.getD (i + 1) 0).toNat < 192 ∧ 128 ≤ (s.getD (i + 2) 0).toNat ∧ (s.getD (i + 2) 0).toNat < 192 ∧ 128 ≤ (s.getD (i + 3) 0).toNat ∧ (s.getD (i + 3) 0).toNat < 192
        ∧ 65536 ≤ ((((s.getD i 0).toNat - 240) * 64 + ((s.getD (i + 1) 0).toNat - 128)) * 64 + ((s.getD (i + 2) 0).toNat - 128)) * 64 + ((s.getD (i + 3) 0).toNat - 128)
        ∧ ((((s.getD i 0).toNat - 240) * 64 + ((s.getD (i + 1) 0).toNat - 128)) * 64 + ((s.getD (i + 2) 0).toNat - 128)) * 64 + ((s.getD (i + 3) 0).toNat - 128) ≤ 1114111
      then (((((s.getD i 0).toNat - 240) * 64 + ((s.getD (i + 1) 0).toNat - 128)) * 64 + ((s.getD (i + 2) 0).toNat - 128)) * 64 + ((s.getD (i + 3) 0).toNat - 128), 4)
    else (65533, 1) := by
  have hl : ∀ k, (s.getD k 0).toNat < 256 := fun k => (s.getD k 0).toNat_lt
  have l0 := hl i; have l1 := hl (i + 1); have l2 := hl (i + 2); have l3 := hl (i + 3)
  simp only [Utf8.decode, bA_get, bA_size, Utf8.runeError, Utf8.valid, Nat.add_zero]
  generalize (s.getD i 0).toNat = b0 at *
  generalize (s.getD (i + 1) 0).toNat = b1 at *
  generalize (s.getD (i + 2) 0).toNat = b2 at *
  generalize (s.getD (i + 3) 0).toNat = b3 at *
  simp only [Bool.and_eq_true, Bool.or_eq_true, beq_iff_eq, decide_eq_true_eq]
  by_cases h0 : b0 < 128
  · rw [if_pos h0, if_pos h0]
  rw [if_neg h0, if_neg h0]
  by_cases h2 : b0 / 32 = 6 ∧ i + 1 < s.length ∧ b1 / 64 = 2
  · rw [if_pos h2]
    by_cases q : 194 ≤ b0
    · rw [if_pos (by omega), if_pos (by omega)]; exact Prod.ext (by show b0 % 32 * 64 + b1 % 64 = _; omega) rfl
    · rw [if_neg (by omega), if_neg (by omega), if_neg (by omega), if_neg (by omega)]
  rw [if_neg h2, if_neg (c := 194 ≤ b0 ∧ _) (by omega)]
  by_cases h3 : b0 / 16 = 14 ∧ (i + 1 < s.length ∧ b1 / 64 = 2) ∧ i + 2 < s.length ∧ b2 / 64 = 2
  · rw [if_pos (by exact ⟨⟨h3.1, h3.2.1⟩, h3.2.2⟩)]
    split
    · rw [if_pos (by omega)]; exact Prod.ext (by show b0 % 16 * 4096 + b1 % 64 * 64 + b2 % 64 = _; omega) rfl
    · rw [if_neg (by omega), if_neg (by omega)]
  rw [if_neg (by intro q; exact h3 ⟨q.1.1, q.1.2, q.2⟩), if_neg (c := 224 ≤ b0 ∧ _) (by omega)]
  by_cases h4 : b0 / 8 = 30 ∧ (i + 1 < s.length ∧ b1 / 64 = 2) ∧ (i + 2 < s.length ∧ b2 / 64 = 2) ∧ i + 3 < s.length ∧ b3 / 64 = 2
  · rw [if_pos (by exact ⟨⟨⟨h4.1, h4.2.1⟩, h4.2.2.1⟩, h4.2.2.2⟩)]
    split
    · rw [if_pos (by omega)]; exact Prod.ext (by show b0 % 8 * 262144 + b1 % 64 * 4096 + b2 % 64 * 64 + b3 % 64 = _; omega) rfl
    · rw [if_neg (by omega)]
  rw [if_neg (by intro q; exact h4 ⟨q.1.1.1, q.1.1.2, q.1.2, q.2⟩), if_neg (c := 240 ≤ b0 ∧ _) (by omega)]
end Go.Proofs.Ytdommpfnoiemkaa
