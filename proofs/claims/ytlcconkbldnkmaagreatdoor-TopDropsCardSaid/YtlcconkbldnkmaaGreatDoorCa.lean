/- Part of the executor and its soundness, or of what it is told of this seat's program. No statement of the seat is proved here. -/
import Derived.Test.YtlcconkbldnkmaaGreatDoorDr
import Derived.Test.YtlcconkbldnkmaaGreatDoorR100
import Derived.Test.YtlcconkbldnkmaaGreatDoorR110
import Derived.Test.YtlcconkbldnkmaaGreatDoorR111
import Derived.Test.YtlcconkbldnkmaaGreatDoorR120
import Derived.Test.YtlcconkbldnkmaaGreatDoorR121
import Derived.Test.YtlcconkbldnkmaaGreatDoorR200
import Derived.Test.YtlcconkbldnkmaaGreatDoorR210
import Derived.Test.YtlcconkbldnkmaaGreatDoorR211
import Derived.Test.YtlcconkbldnkmaaGreatDoorR220
import Derived.Test.YtlcconkbldnkmaaGreatDoorR221
import Derived.Test.YtlcconkbldnkmaaGreatDoorR300
import Derived.Test.YtlcconkbldnkmaaGreatDoorR310
import Derived.Test.YtlcconkbldnkmaaGreatDoorR320
import Derived.Test.YtlcconkbldnkmaaGreatDoorR321
set_option linter.unusedSimpArgs false
set_option linter.unusedVariables false
/- The law in every case. No statement of the seat is proved here. -/
namespace Go.Proofs.YtlcconkbldnkmaaGreatDoor
open Go.Sx
def Ends (ls : List Int) (p n : Int) : Prop := ∃ h', CallGd Tryz.prog 3 [.rs 1 (nums ls), .iv .u8 p 0 255 8 n] [.glob 0 433 pow10] .tt h' ∧ h'[0]? = some (.glob 0 433 pow10)
theorem law_fin {ls : List Int} {p an ad cb m t n : Int} {qu re : SV} (hV : EnvOK Tryz.prog (env2 ls m t an ad cb qu re)) {R : Prop} (hq : lawV ls p an ad cb m t n qu re = R) (h : R) : Ends ls p n :=
  run_fin (V := env2 ls m t an ad cb qu re) hV fuel (f := 3) (args := [.rs 1 (nums ls), .iv .u8 p 0 255 8 n]) (H := gH) (s := .tt) gH_view hq h
theorem rest1_ok {ls : List Int} {an ad m : Int} (h : an < ad) : rest1 ls an ad m := by
  unfold rest1
  exact ⟨rfl, ⟨rfl, rfl⟩, ⟨rfl, rfl⟩, h, h, trivial⟩
theorem rest2_ok {ls : List Int} {an ad m : Int} (h : an < ad) : rest2 ls an ad m := by
  unfold rest2
  exact ⟨rfl, ⟨rfl, rfl⟩, ⟨rfl, rfl⟩, h, trivial⟩
theorem alx_rng (ls : List Int) (a : Int) : 1 ≤ (alx ls a).1 ∧ (alx ls a).1 ≤ 1048575 ∧ 2 ≤ (alx ls a).2 ∧ (alx ls a).2 ≤ 1048576 ∧ (alx ls a).1 < (alx ls a).2 := by
  have h0 := nxt_lo ls a 6
  have h1 := nxt_hi ls a 6 (by omega)
  have key : ∀ k : Nat, k < 6 → 1 ≤ (als.getD k (0, 0)).1 ∧ (als.getD k (0, 0)).1 ≤ 1048575 ∧ 2 ≤ (als.getD k (0, 0)).2 ∧ (als.getD k (0, 0)).2 ≤ 1048576 ∧ (als.getD k (0, 0)).1 < (als.getD k (0, 0)).2 := by decide
  exact key _ (by omega)
theorem qu_rng (ls : List Int) (a m : Int) : 256 ≤ (cfX ls a m).qu ∧ (cfX ls a m).qu ≤ 5000 ∧ ((cfX ls a m).qu = 256 ∨ 1000 ≤ (cfX ls a m).qu) := by
  have key : ∀ k : Nat, k < 3 → 256 ≤ quL.getD k 0 ∧ quL.getD k 0 ≤ 5000 ∧ (quL.getD k 0 = 256 ∨ 1000 ≤ quL.getD k 0) := by decide
  show 256 ≤ quL.getD (nxt ls (pkP ls (a + 1) + 1 + 1 + 1 + 1) 3).toNat 0 ∧ _
  have h0 := nxt_lo ls (pkP ls (a + 1) + 1 + 1 + 1 + 1) 3
  have h1 := nxt_hi ls (pkP ls (a + 1) + 1 + 1 + 1 + 1) 3 (by omega)
  exact key _ (by omega)
theorem re_rng (ls : List Int) (a m : Int) : 1 ≤ (cfX ls a m).re ∧ (cfX ls a m).re ≤ 1099511627776 ∧ ((cfX ls a m).re = 1 ∨ 268435456 ≤ (cfX ls a m).re) := by
  have key : ∀ k : Nat, k < 4 → 1 ≤ reL.getD k 0 ∧ reL.getD k 0 ≤ 1099511627776 ∧ (reL.getD k 0 = 1 ∨ 268435456 ≤ reL.getD k 0) := by decide
  show 1 ≤ reL.getD (nxt ls (pkP ls (a + 1) + 1 + 1 + 1 + 1 + 1 + 1) 4).toNat 0 ∧ _
  have h0 := nxt_lo ls (pkP ls (a + 1) + 1 + 1 + 1 + 1 + 1 + 1) 4
  have h1 := nxt_hi ls (pkP ls (a + 1) + 1 + 1 + 1 + 1 + 1 + 1) 4 (by omega)
  exact key _ (by omega)
theorem cb_rng (ls : List Int) (a m : Int) : 4096 ≤ (cfX ls a m).cb ∧ (cfX ls a m).cb ≤ 8096 := by
  show 4096 ≤ 4096 + 2000 * nxt ls (pkP ls (a + 1) + 1) 3 ∧ 4096 + 2000 * nxt ls (pkP ls (a + 1) + 1) 3 ≤ 8096
  have h0 := nxt_lo ls (pkP ls (a + 1) + 1) 3
  have h1 := nxt_hi ls (pkP ls (a + 1) + 1) 3 (by omega)
  omega
theorem know_cfg {ls : List Int} {m : Int} {qu re : SV} (hq : Know (.int .i64 (cfX ls 1 m).qu) qu) (hr : Know (.int .i64 (cfX ls 1 m).re) re) :
    Know (cfE (cfX ls 1 m)) (cfS m (alx ls 1).1 (alx ls 1).2 (cfX ls 1 m).cb qu re) := by
  obtain ⟨a1, a2, a3, a4, _⟩ := alx_rng ls 1
  obtain ⟨b1, b2⟩ := cb_rng ls 1 m
  exact know_agg (knows_cons (.refl _) (knows_cons (know_iv a1 a2) (knows_cons (know_iv a3 a4) (knows_cons know_any (knows_cons know_any (knows_cons know_any (knows_cons know_any (knows_cons (know_iv b1 b2) (knows_cons (.refl _)
    (knows_cons know_any (knows_cons know_any (knows_cons hq (knows_cons know_any (knows_cons hr (knows_cons (.refl _) knows_nil)))))))))))))))
theorem env_of {ls : List Int} {m t : Int} {qu re : SV} (hm : m = 1 + nxt ls 0 3) (ht : t = nxt ls (cfA ls 1) 3) (hq : Know (.int .i64 (cfX ls 1 m).qu) qu) (hr : Know (.int .i64 (cfX ls 1 m).re) re) :
    EnvOK Tryz.prog (env2 ls m t (alx ls 1).1 (alx ls 1).2 (cfX ls 1 m).cb qu re) := env2_ok hm ht (know_cfg hq hr)
theorem case10 (ls : List Int) (p : Int) (hm : (1 : Int) = 1 + nxt ls 0 3) (ht : (0 : Int) = nxt ls (cfA ls 1) 3) : Ends ls p (p % 8) := by
  obtain ⟨q1, q2, q3⟩ := qu_rng ls 1 1
  obtain ⟨r1, r2, r3⟩ := re_rng ls 1 1
  obtain ⟨_, _, _, _, hlt⟩ := alx_rng ls 1
  have hn : p % 8 = 0 ∨ p % 8 = 1 ∨ p % 8 = 2 ∨ p % 8 = 3 ∨ p % 8 = 4 ∨ p % 8 = 5 ∨ p % 8 = 6 ∨ p % 8 = 7 := by omega
  have hV := env_of hm ht (know_iv q1 q2) (know_iv r1 r2)
  rcases hn with hn | hn | hn | hn | hn | hn | hn | hn <;> rw [hn]
  · exact law_fin hV (r1000 ls p (alx ls 1).1 (alx ls 1).2 (cfX ls 1 1).cb (cfX ls 1 1).qu (cfX ls 1 1).re) (rest1_ok hlt)
  · exact law_fin hV (r1001 ls p (alx ls 1).1 (alx ls 1).2 (cfX ls 1 1).cb (cfX ls 1 1).qu (cfX ls 1 1).re) (rest1_ok hlt)
  · exact law_fin hV (r1002 ls p (alx ls 1).1 (alx ls 1).2 (cfX ls 1 1).cb (cfX ls 1 1).qu (cfX ls 1 1).re) (rest1_ok hlt)
  · exact law_fin hV (r1003 ls p (alx ls 1).1 (alx ls 1).2 (cfX ls 1 1).cb (cfX ls 1 1).qu (cfX ls 1 1).re) (rest1_ok hlt)
  · exact law_fin hV (r1004 ls p (alx ls 1).1 (alx ls 1).2 (cfX ls 1 1).cb (cfX ls 1 1).qu (cfX ls 1 1).re) (rest1_ok hlt)
  · exact law_fin hV (r1005 ls p (alx ls 1).1 (alx ls 1).2 (cfX ls 1 1).cb (cfX ls 1 1).qu (cfX ls 1 1).re) (rest1_ok hlt)
  · exact law_fin hV (r1006 ls p (alx ls 1).1 (alx ls 1).2 (cfX ls 1 1).cb (cfX ls 1 1).qu (cfX ls 1 1).re) (rest1_ok hlt)
  · exact law_fin hV (r1007 ls p (alx ls 1).1 (alx ls 1).2 (cfX ls 1 1).cb (cfX ls 1 1).qu (cfX ls 1 1).re) (rest1_ok hlt)
theorem case11 (ls : List Int) (p : Int) (hm : (1 : Int) = 1 + nxt ls 0 3) (ht : (1 : Int) = nxt ls (cfA ls 1) 3) : Ends ls p (p % 8) := by
  obtain ⟨q1, q2, q3⟩ := qu_rng ls 1 1
  obtain ⟨r1, r2, r3⟩ := re_rng ls 1 1
  obtain ⟨_, _, _, _, hlt⟩ := alx_rng ls 1
  have hn : p % 8 = 0 ∨ p % 8 = 1 ∨ p % 8 = 2 ∨ p % 8 = 3 ∨ p % 8 = 4 ∨ p % 8 = 5 ∨ p % 8 = 6 ∨ p % 8 = 7 := by omega
  rcases r3 with r3 | r3
  · have hr : Know (.int .i64 (cfX ls 1 1).re) (.int .i64 1) := by rw [r3]; exact .refl _
    have hV := env_of hm ht (know_iv q1 q2) hr
    rcases hn with hn | hn | hn | hn | hn | hn | hn | hn <;> rw [hn]
    · exact law_fin hV (r1100 ls p (alx ls 1).1 (alx ls 1).2 (cfX ls 1 1).cb (cfX ls 1 1).qu (cfX ls 1 1).re) (rest1_ok hlt)
    · exact law_fin hV (r1101 ls p (alx ls 1).1 (alx ls 1).2 (cfX ls 1 1).cb (cfX ls 1 1).qu (cfX ls 1 1).re) (rest1_ok hlt)
    · exact law_fin hV (r1102 ls p (alx ls 1).1 (alx ls 1).2 (cfX ls 1 1).cb (cfX ls 1 1).qu (cfX ls 1 1).re) (rest1_ok hlt)
    · exact law_fin hV (r1103 ls p (alx ls 1).1 (alx ls 1).2 (cfX ls 1 1).cb (cfX ls 1 1).qu (cfX ls 1 1).re) (rest1_ok hlt)
    · exact law_fin hV (r1104 ls p (alx ls 1).1 (alx ls 1).2 (cfX ls 1 1).cb (cfX ls 1 1).qu (cfX ls 1 1).re) (rest1_ok hlt)
    · exact law_fin hV (r1105 ls p (alx ls 1).1 (alx ls 1).2 (cfX ls 1 1).cb (cfX ls 1 1).qu (cfX ls 1 1).re) (rest1_ok hlt)
    · exact law_fin hV (r1106 ls p (alx ls 1).1 (alx ls 1).2 (cfX ls 1 1).cb (cfX ls 1 1).qu (cfX ls 1 1).re) (rest1_ok hlt)
    · exact law_fin hV (r1107 ls p (alx ls 1).1 (alx ls 1).2 (cfX ls 1 1).cb (cfX ls 1 1).qu (cfX ls 1 1).re) (rest1_ok hlt)
  · have hr : Know (.int .i64 (cfX ls 1 1).re) (.iv .i64 (cfX ls 1 1).re 268435456 1099511627776 1 0) := know_iv r3 r2
    have hV := env_of hm ht (know_iv q1 q2) hr
    rcases hn with hn | hn | hn | hn | hn | hn | hn | hn <;> rw [hn]
    · exact law_fin hV (r1110 ls p (alx ls 1).1 (alx ls 1).2 (cfX ls 1 1).cb (cfX ls 1 1).qu (cfX ls 1 1).re) (rest1_ok hlt)
    · exact law_fin hV (r1111 ls p (alx ls 1).1 (alx ls 1).2 (cfX ls 1 1).cb (cfX ls 1 1).qu (cfX ls 1 1).re) (rest1_ok hlt)
    · exact law_fin hV (r1112 ls p (alx ls 1).1 (alx ls 1).2 (cfX ls 1 1).cb (cfX ls 1 1).qu (cfX ls 1 1).re) (rest1_ok hlt)
    · exact law_fin hV (r1113 ls p (alx ls 1).1 (alx ls 1).2 (cfX ls 1 1).cb (cfX ls 1 1).qu (cfX ls 1 1).re) (rest1_ok hlt)
    · exact law_fin hV (r1114 ls p (alx ls 1).1 (alx ls 1).2 (cfX ls 1 1).cb (cfX ls 1 1).qu (cfX ls 1 1).re) (rest1_ok hlt)
    · exact law_fin hV (r1115 ls p (alx ls 1).1 (alx ls 1).2 (cfX ls 1 1).cb (cfX ls 1 1).qu (cfX ls 1 1).re) (rest1_ok hlt)
    · exact law_fin hV (r1116 ls p (alx ls 1).1 (alx ls 1).2 (cfX ls 1 1).cb (cfX ls 1 1).qu (cfX ls 1 1).re) (rest1_ok hlt)
    · exact law_fin hV (r1117 ls p (alx ls 1).1 (alx ls 1).2 (cfX ls 1 1).cb (cfX ls 1 1).qu (cfX ls 1 1).re) (rest1_ok hlt)
theorem case12 (ls : List Int) (p : Int) (hm : (1 : Int) = 1 + nxt ls 0 3) (ht : (2 : Int) = nxt ls (cfA ls 1) 3) : Ends ls p (p % 8) := by
  obtain ⟨q1, q2, q3⟩ := qu_rng ls 1 1
  obtain ⟨r1, r2, r3⟩ := re_rng ls 1 1
  obtain ⟨_, _, _, _, hlt⟩ := alx_rng ls 1
  have hn : p % 8 = 0 ∨ p % 8 = 1 ∨ p % 8 = 2 ∨ p % 8 = 3 ∨ p % 8 = 4 ∨ p % 8 = 5 ∨ p % 8 = 6 ∨ p % 8 = 7 := by omega
  rcases r3 with r3 | r3
  · have hr : Know (.int .i64 (cfX ls 1 1).re) (.int .i64 1) := by rw [r3]; exact .refl _
    have hV := env_of hm ht (know_iv q1 q2) hr
    rcases hn with hn | hn | hn | hn | hn | hn | hn | hn <;> rw [hn]
    · exact law_fin hV (r1200 ls p (alx ls 1).1 (alx ls 1).2 (cfX ls 1 1).cb (cfX ls 1 1).qu (cfX ls 1 1).re) (rest1_ok hlt)
    · exact law_fin hV (r1201 ls p (alx ls 1).1 (alx ls 1).2 (cfX ls 1 1).cb (cfX ls 1 1).qu (cfX ls 1 1).re) (rest1_ok hlt)
    · exact law_fin hV (r1202 ls p (alx ls 1).1 (alx ls 1).2 (cfX ls 1 1).cb (cfX ls 1 1).qu (cfX ls 1 1).re) (rest1_ok hlt)
    · exact law_fin hV (r1203 ls p (alx ls 1).1 (alx ls 1).2 (cfX ls 1 1).cb (cfX ls 1 1).qu (cfX ls 1 1).re) (rest1_ok hlt)
    · exact law_fin hV (r1204 ls p (alx ls 1).1 (alx ls 1).2 (cfX ls 1 1).cb (cfX ls 1 1).qu (cfX ls 1 1).re) (rest1_ok hlt)
    · exact law_fin hV (r1205 ls p (alx ls 1).1 (alx ls 1).2 (cfX ls 1 1).cb (cfX ls 1 1).qu (cfX ls 1 1).re) (rest1_ok hlt)
    · exact law_fin hV (r1206 ls p (alx ls 1).1 (alx ls 1).2 (cfX ls 1 1).cb (cfX ls 1 1).qu (cfX ls 1 1).re) (rest1_ok hlt)
    · exact law_fin hV (r1207 ls p (alx ls 1).1 (alx ls 1).2 (cfX ls 1 1).cb (cfX ls 1 1).qu (cfX ls 1 1).re) (rest1_ok hlt)
  · have hr : Know (.int .i64 (cfX ls 1 1).re) (.iv .i64 (cfX ls 1 1).re 268435456 1099511627776 1 0) := know_iv r3 r2
    have hV := env_of hm ht (know_iv q1 q2) hr
    rcases hn with hn | hn | hn | hn | hn | hn | hn | hn <;> rw [hn]
    · exact law_fin hV (r1210 ls p (alx ls 1).1 (alx ls 1).2 (cfX ls 1 1).cb (cfX ls 1 1).qu (cfX ls 1 1).re) (rest1_ok hlt)
    · exact law_fin hV (r1211 ls p (alx ls 1).1 (alx ls 1).2 (cfX ls 1 1).cb (cfX ls 1 1).qu (cfX ls 1 1).re) (rest1_ok hlt)
    · exact law_fin hV (r1212 ls p (alx ls 1).1 (alx ls 1).2 (cfX ls 1 1).cb (cfX ls 1 1).qu (cfX ls 1 1).re) (rest1_ok hlt)
    · exact law_fin hV (r1213 ls p (alx ls 1).1 (alx ls 1).2 (cfX ls 1 1).cb (cfX ls 1 1).qu (cfX ls 1 1).re) (rest1_ok hlt)
    · exact law_fin hV (r1214 ls p (alx ls 1).1 (alx ls 1).2 (cfX ls 1 1).cb (cfX ls 1 1).qu (cfX ls 1 1).re) (rest1_ok hlt)
    · exact law_fin hV (r1215 ls p (alx ls 1).1 (alx ls 1).2 (cfX ls 1 1).cb (cfX ls 1 1).qu (cfX ls 1 1).re) (rest1_ok hlt)
    · exact law_fin hV (r1216 ls p (alx ls 1).1 (alx ls 1).2 (cfX ls 1 1).cb (cfX ls 1 1).qu (cfX ls 1 1).re) (rest1_ok hlt)
    · exact law_fin hV (r1217 ls p (alx ls 1).1 (alx ls 1).2 (cfX ls 1 1).cb (cfX ls 1 1).qu (cfX ls 1 1).re) (rest1_ok hlt)
theorem case20 (ls : List Int) (p : Int) (hm : (2 : Int) = 1 + nxt ls 0 3) (ht : (0 : Int) = nxt ls (cfA ls 1) 3) : Ends ls p (p % 8) := by
  obtain ⟨q1, q2, q3⟩ := qu_rng ls 1 2
  obtain ⟨r1, r2, r3⟩ := re_rng ls 1 2
  obtain ⟨_, _, _, _, hlt⟩ := alx_rng ls 1
  have hn : p % 8 = 0 ∨ p % 8 = 1 ∨ p % 8 = 2 ∨ p % 8 = 3 ∨ p % 8 = 4 ∨ p % 8 = 5 ∨ p % 8 = 6 ∨ p % 8 = 7 := by omega
  have hV := env_of hm ht (know_iv q1 q2) (know_iv r1 r2)
  rcases hn with hn | hn | hn | hn | hn | hn | hn | hn <;> rw [hn]
  · exact law_fin hV (r2000 ls p (alx ls 1).1 (alx ls 1).2 (cfX ls 1 2).cb (cfX ls 1 2).qu (cfX ls 1 2).re) (rest2_ok hlt)
  · exact law_fin hV (r2001 ls p (alx ls 1).1 (alx ls 1).2 (cfX ls 1 2).cb (cfX ls 1 2).qu (cfX ls 1 2).re) (rest2_ok hlt)
  · exact law_fin hV (r2002 ls p (alx ls 1).1 (alx ls 1).2 (cfX ls 1 2).cb (cfX ls 1 2).qu (cfX ls 1 2).re) (rest2_ok hlt)
  · exact law_fin hV (r2003 ls p (alx ls 1).1 (alx ls 1).2 (cfX ls 1 2).cb (cfX ls 1 2).qu (cfX ls 1 2).re) (rest2_ok hlt)
  · exact law_fin hV (r2004 ls p (alx ls 1).1 (alx ls 1).2 (cfX ls 1 2).cb (cfX ls 1 2).qu (cfX ls 1 2).re) (rest2_ok hlt)
  · exact law_fin hV (r2005 ls p (alx ls 1).1 (alx ls 1).2 (cfX ls 1 2).cb (cfX ls 1 2).qu (cfX ls 1 2).re) (rest2_ok hlt)
  · exact law_fin hV (r2006 ls p (alx ls 1).1 (alx ls 1).2 (cfX ls 1 2).cb (cfX ls 1 2).qu (cfX ls 1 2).re) (rest2_ok hlt)
  · exact law_fin hV (r2007 ls p (alx ls 1).1 (alx ls 1).2 (cfX ls 1 2).cb (cfX ls 1 2).qu (cfX ls 1 2).re) (rest2_ok hlt)
theorem case21 (ls : List Int) (p : Int) (hm : (2 : Int) = 1 + nxt ls 0 3) (ht : (1 : Int) = nxt ls (cfA ls 1) 3) : Ends ls p (p % 8) := by
  obtain ⟨q1, q2, q3⟩ := qu_rng ls 1 2
  obtain ⟨r1, r2, r3⟩ := re_rng ls 1 2
  obtain ⟨_, _, _, _, hlt⟩ := alx_rng ls 1
  have hn : p % 8 = 0 ∨ p % 8 = 1 ∨ p % 8 = 2 ∨ p % 8 = 3 ∨ p % 8 = 4 ∨ p % 8 = 5 ∨ p % 8 = 6 ∨ p % 8 = 7 := by omega
  rcases r3 with r3 | r3
  · have hr : Know (.int .i64 (cfX ls 1 2).re) (.int .i64 1) := by rw [r3]; exact .refl _
    have hV := env_of hm ht (know_iv q1 q2) hr
    rcases hn with hn | hn | hn | hn | hn | hn | hn | hn <;> rw [hn]
    · exact law_fin hV (r2100 ls p (alx ls 1).1 (alx ls 1).2 (cfX ls 1 2).cb (cfX ls 1 2).qu (cfX ls 1 2).re) (rest2_ok hlt)
    · exact law_fin hV (r2101 ls p (alx ls 1).1 (alx ls 1).2 (cfX ls 1 2).cb (cfX ls 1 2).qu (cfX ls 1 2).re) (rest2_ok hlt)
    · exact law_fin hV (r2102 ls p (alx ls 1).1 (alx ls 1).2 (cfX ls 1 2).cb (cfX ls 1 2).qu (cfX ls 1 2).re) (rest2_ok hlt)
    · exact law_fin hV (r2103 ls p (alx ls 1).1 (alx ls 1).2 (cfX ls 1 2).cb (cfX ls 1 2).qu (cfX ls 1 2).re) (rest2_ok hlt)
    · exact law_fin hV (r2104 ls p (alx ls 1).1 (alx ls 1).2 (cfX ls 1 2).cb (cfX ls 1 2).qu (cfX ls 1 2).re) (rest2_ok hlt)
    · exact law_fin hV (r2105 ls p (alx ls 1).1 (alx ls 1).2 (cfX ls 1 2).cb (cfX ls 1 2).qu (cfX ls 1 2).re) (rest2_ok hlt)
    · exact law_fin hV (r2106 ls p (alx ls 1).1 (alx ls 1).2 (cfX ls 1 2).cb (cfX ls 1 2).qu (cfX ls 1 2).re) (rest2_ok hlt)
    · exact law_fin hV (r2107 ls p (alx ls 1).1 (alx ls 1).2 (cfX ls 1 2).cb (cfX ls 1 2).qu (cfX ls 1 2).re) (rest2_ok hlt)
  · have hr : Know (.int .i64 (cfX ls 1 2).re) (.iv .i64 (cfX ls 1 2).re 268435456 1099511627776 1 0) := know_iv r3 r2
    have hV := env_of hm ht (know_iv q1 q2) hr
    rcases hn with hn | hn | hn | hn | hn | hn | hn | hn <;> rw [hn]
    · exact law_fin hV (r2110 ls p (alx ls 1).1 (alx ls 1).2 (cfX ls 1 2).cb (cfX ls 1 2).qu (cfX ls 1 2).re) (rest2_ok hlt)
    · exact law_fin hV (r2111 ls p (alx ls 1).1 (alx ls 1).2 (cfX ls 1 2).cb (cfX ls 1 2).qu (cfX ls 1 2).re) (rest2_ok hlt)
    · exact law_fin hV (r2112 ls p (alx ls 1).1 (alx ls 1).2 (cfX ls 1 2).cb (cfX ls 1 2).qu (cfX ls 1 2).re) (rest2_ok hlt)
    · exact law_fin hV (r2113 ls p (alx ls 1).1 (alx ls 1).2 (cfX ls 1 2).cb (cfX ls 1 2).qu (cfX ls 1 2).re) (rest2_ok hlt)
    · exact law_fin hV (r2114 ls p (alx ls 1).1 (alx ls 1).2 (cfX ls 1 2).cb (cfX ls 1 2).qu (cfX ls 1 2).re) (rest2_ok hlt)
    · exact law_fin hV (r2115 ls p (alx ls 1).1 (alx ls 1).2 (cfX ls 1 2).cb (cfX ls 1 2).qu (cfX ls 1 2).re) (rest2_ok hlt)
    · exact law_fin hV (r2116 ls p (alx ls 1).1 (alx ls 1).2 (cfX ls 1 2).cb (cfX ls 1 2).qu (cfX ls 1 2).re) (rest2_ok hlt)
    · exact law_fin hV (r2117 ls p (alx ls 1).1 (alx ls 1).2 (cfX ls 1 2).cb (cfX ls 1 2).qu (cfX ls 1 2).re) (rest2_ok hlt)
theorem case22 (ls : List Int) (p : Int) (hm : (2 : Int) = 1 + nxt ls 0 3) (ht : (2 : Int) = nxt ls (cfA ls 1) 3) : Ends ls p (p % 8) := by
  obtain ⟨q1, q2, q3⟩ := qu_rng ls 1 2
  obtain ⟨r1, r2, r3⟩ := re_rng ls 1 2
  obtain ⟨_, _, _, _, hlt⟩ := alx_rng ls 1
  have hn : p % 8 = 0 ∨ p % 8 = 1 ∨ p % 8 = 2 ∨ p % 8 = 3 ∨ p % 8 = 4 ∨ p % 8 = 5 ∨ p % 8 = 6 ∨ p % 8 = 7 := by omega
  rcases r3 with r3 | r3
  · have hr : Know (.int .i64 (cfX ls 1 2).re) (.int .i64 1) := by rw [r3]; exact .refl _
    have hV := env_of hm ht (know_iv q1 q2) hr
    rcases hn with hn | hn | hn | hn | hn | hn | hn | hn <;> rw [hn]
    · exact law_fin hV (r2200 ls p (alx ls 1).1 (alx ls 1).2 (cfX ls 1 2).cb (cfX ls 1 2).qu (cfX ls 1 2).re) (rest2_ok hlt)
    · exact law_fin hV (r2201 ls p (alx ls 1).1 (alx ls 1).2 (cfX ls 1 2).cb (cfX ls 1 2).qu (cfX ls 1 2).re) (rest2_ok hlt)
    · exact law_fin hV (r2202 ls p (alx ls 1).1 (alx ls 1).2 (cfX ls 1 2).cb (cfX ls 1 2).qu (cfX ls 1 2).re) (rest2_ok hlt)
    · exact law_fin hV (r2203 ls p (alx ls 1).1 (alx ls 1).2 (cfX ls 1 2).cb (cfX ls 1 2).qu (cfX ls 1 2).re) (rest2_ok hlt)
    · exact law_fin hV (r2204 ls p (alx ls 1).1 (alx ls 1).2 (cfX ls 1 2).cb (cfX ls 1 2).qu (cfX ls 1 2).re) (rest2_ok hlt)
    · exact law_fin hV (r2205 ls p (alx ls 1).1 (alx ls 1).2 (cfX ls 1 2).cb (cfX ls 1 2).qu (cfX ls 1 2).re) (rest2_ok hlt)
    · exact law_fin hV (r2206 ls p (alx ls 1).1 (alx ls 1).2 (cfX ls 1 2).cb (cfX ls 1 2).qu (cfX ls 1 2).re) (rest2_ok hlt)
    · exact law_fin hV (r2207 ls p (alx ls 1).1 (alx ls 1).2 (cfX ls 1 2).cb (cfX ls 1 2).qu (cfX ls 1 2).re) (rest2_ok hlt)
  · have hr : Know (.int .i64 (cfX ls 1 2).re) (.iv .i64 (cfX ls 1 2).re 268435456 1099511627776 1 0) := know_iv r3 r2
    have hV := env_of hm ht (know_iv q1 q2) hr
    rcases hn with hn | hn | hn | hn | hn | hn | hn | hn <;> rw [hn]
    · exact law_fin hV (r2210 ls p (alx ls 1).1 (alx ls 1).2 (cfX ls 1 2).cb (cfX ls 1 2).qu (cfX ls 1 2).re) (rest2_ok hlt)
    · exact law_fin hV (r2211 ls p (alx ls 1).1 (alx ls 1).2 (cfX ls 1 2).cb (cfX ls 1 2).qu (cfX ls 1 2).re) (rest2_ok hlt)
    · exact law_fin hV (r2212 ls p (alx ls 1).1 (alx ls 1).2 (cfX ls 1 2).cb (cfX ls 1 2).qu (cfX ls 1 2).re) (rest2_ok hlt)
    · exact law_fin hV (r2213 ls p (alx ls 1).1 (alx ls 1).2 (cfX ls 1 2).cb (cfX ls 1 2).qu (cfX ls 1 2).re) (rest2_ok hlt)
    · exact law_fin hV (r2214 ls p (alx ls 1).1 (alx ls 1).2 (cfX ls 1 2).cb (cfX ls 1 2).qu (cfX ls 1 2).re) (rest2_ok hlt)
    · exact law_fin hV (r2215 ls p (alx ls 1).1 (alx ls 1).2 (cfX ls 1 2).cb (cfX ls 1 2).qu (cfX ls 1 2).re) (rest2_ok hlt)
    · exact law_fin hV (r2216 ls p (alx ls 1).1 (alx ls 1).2 (cfX ls 1 2).cb (cfX ls 1 2).qu (cfX ls 1 2).re) (rest2_ok hlt)
    · exact law_fin hV (r2217 ls p (alx ls 1).1 (alx ls 1).2 (cfX ls 1 2).cb (cfX ls 1 2).qu (cfX ls 1 2).re) (rest2_ok hlt)
theorem case30 (ls : List Int) (p : Int) (hm : (3 : Int) = 1 + nxt ls 0 3) (ht : (0 : Int) = nxt ls (cfA ls 1) 3) : Ends ls p (p % 8) := by
  obtain ⟨q1, q2, q3⟩ := qu_rng ls 1 3
  obtain ⟨r1, r2, r3⟩ := re_rng ls 1 3
  obtain ⟨_, _, _, _, hlt⟩ := alx_rng ls 1
  have hn : p % 8 = 0 ∨ p % 8 = 1 ∨ p % 8 = 2 ∨ p % 8 = 3 ∨ p % 8 = 4 ∨ p % 8 = 5 ∨ p % 8 = 6 ∨ p % 8 = 7 := by omega
  have hV := env_of hm ht (know_iv q1 q2) (know_iv r1 r2)
  rcases hn with hn | hn | hn | hn | hn | hn | hn | hn <;> rw [hn]
  · exact law_fin hV (r3000 ls p (alx ls 1).1 (alx ls 1).2 (cfX ls 1 3).cb (cfX ls 1 3).qu (cfX ls 1 3).re) (rest2_ok hlt)
  · exact law_fin hV (r3001 ls p (alx ls 1).1 (alx ls 1).2 (cfX ls 1 3).cb (cfX ls 1 3).qu (cfX ls 1 3).re) (rest2_ok hlt)
  · exact law_fin hV (r3002 ls p (alx ls 1).1 (alx ls 1).2 (cfX ls 1 3).cb (cfX ls 1 3).qu (cfX ls 1 3).re) (rest2_ok hlt)
  · exact law_fin hV (r3003 ls p (alx ls 1).1 (alx ls 1).2 (cfX ls 1 3).cb (cfX ls 1 3).qu (cfX ls 1 3).re) (rest2_ok hlt)
  · exact law_fin hV (r3004 ls p (alx ls 1).1 (alx ls 1).2 (cfX ls 1 3).cb (cfX ls 1 3).qu (cfX ls 1 3).re) (rest2_ok hlt)
  · exact law_fin hV (r3005 ls p (alx ls 1).1 (alx ls 1).2 (cfX ls 1 3).cb (cfX ls 1 3).qu (cfX ls 1 3).re) (rest2_ok hlt)
  · exact law_fin hV (r3006 ls p (alx ls 1).1 (alx ls 1).2 (cfX ls 1 3).cb (cfX ls 1 3).qu (cfX ls 1 3).re) (rest2_ok hlt)
  · exact law_fin hV (r3007 ls p (alx ls 1).1 (alx ls 1).2 (cfX ls 1 3).cb (cfX ls 1 3).qu (cfX ls 1 3).re) (rest2_ok hlt)
theorem case31 (ls : List Int) (p : Int) (hm : (3 : Int) = 1 + nxt ls 0 3) (ht : (1 : Int) = nxt ls (cfA ls 1) 3) : Ends ls p (p % 8) := by
  obtain ⟨q1, q2, q3⟩ := qu_rng ls 1 3
  obtain ⟨r1, r2, r3⟩ := re_rng ls 1 3
  obtain ⟨_, _, _, _, hlt⟩ := alx_rng ls 1
  have hn : p % 8 = 0 ∨ p % 8 = 1 ∨ p % 8 = 2 ∨ p % 8 = 3 ∨ p % 8 = 4 ∨ p % 8 = 5 ∨ p % 8 = 6 ∨ p % 8 = 7 := by omega
  have hV := env_of hm ht (know_iv q1 q2) (know_iv r1 r2)
  rcases hn with hn | hn | hn | hn | hn | hn | hn | hn <;> rw [hn]
  · exact law_fin hV (r3100 ls p (alx ls 1).1 (alx ls 1).2 (cfX ls 1 3).cb (cfX ls 1 3).qu (cfX ls 1 3).re) (rest2_ok hlt)
  · exact law_fin hV (r3101 ls p (alx ls 1).1 (alx ls 1).2 (cfX ls 1 3).cb (cfX ls 1 3).qu (cfX ls 1 3).re) (rest2_ok hlt)
  · exact law_fin hV (r3102 ls p (alx ls 1).1 (alx ls 1).2 (cfX ls 1 3).cb (cfX ls 1 3).qu (cfX ls 1 3).re) (rest2_ok hlt)
  · exact law_fin hV (r3103 ls p (alx ls 1).1 (alx ls 1).2 (cfX ls 1 3).cb (cfX ls 1 3).qu (cfX ls 1 3).re) (rest2_ok hlt)
  · exact law_fin hV (r3104 ls p (alx ls 1).1 (alx ls 1).2 (cfX ls 1 3).cb (cfX ls 1 3).qu (cfX ls 1 3).re) (rest2_ok hlt)
  · exact law_fin hV (r3105 ls p (alx ls 1).1 (alx ls 1).2 (cfX ls 1 3).cb (cfX ls 1 3).qu (cfX ls 1 3).re) (rest2_ok hlt)
  · exact law_fin hV (r3106 ls p (alx ls 1).1 (alx ls 1).2 (cfX ls 1 3).cb (cfX ls 1 3).qu (cfX ls 1 3).re) (rest2_ok hlt)
  · exact law_fin hV (r3107 ls p (alx ls 1).1 (alx ls 1).2 (cfX ls 1 3).cb (cfX ls 1 3).qu (cfX ls 1 3).re) (rest2_ok hlt)
theorem case32 (ls : List Int) (p : Int) (hm : (3 : Int) = 1 + nxt ls 0 3) (ht : (2 : Int) = nxt ls (cfA ls 1) 3) : Ends ls p (p % 8) := by
  obtain ⟨q1, q2, q3⟩ := qu_rng ls 1 3
  obtain ⟨r1, r2, r3⟩ := re_rng ls 1 3
  obtain ⟨_, _, _, _, hlt⟩ := alx_rng ls 1
  have hn : p % 8 = 0 ∨ p % 8 = 1 ∨ p % 8 = 2 ∨ p % 8 = 3 ∨ p % 8 = 4 ∨ p % 8 = 5 ∨ p % 8 = 6 ∨ p % 8 = 7 := by omega
  rcases q3 with q3 | q3
  · have hq : Know (.int .i64 (cfX ls 1 3).qu) (.int .i64 256) := by rw [q3]; exact .refl _
    have hV := env_of hm ht hq (know_iv r1 r2)
    rcases hn with hn | hn | hn | hn | hn | hn | hn | hn <;> rw [hn]
    · exact law_fin hV (r3200 ls p (alx ls 1).1 (alx ls 1).2 (cfX ls 1 3).cb (cfX ls 1 3).qu (cfX ls 1 3).re) (rest2_ok hlt)
    · exact law_fin hV (r3201 ls p (alx ls 1).1 (alx ls 1).2 (cfX ls 1 3).cb (cfX ls 1 3).qu (cfX ls 1 3).re) (rest2_ok hlt)
    · exact law_fin hV (r3202 ls p (alx ls 1).1 (alx ls 1).2 (cfX ls 1 3).cb (cfX ls 1 3).qu (cfX ls 1 3).re) (rest2_ok hlt)
    · exact law_fin hV (r3203 ls p (alx ls 1).1 (alx ls 1).2 (cfX ls 1 3).cb (cfX ls 1 3).qu (cfX ls 1 3).re) (rest2_ok hlt)
    · exact law_fin hV (r3204 ls p (alx ls 1).1 (alx ls 1).2 (cfX ls 1 3).cb (cfX ls 1 3).qu (cfX ls 1 3).re) (rest2_ok hlt)
    · exact law_fin hV (r3205 ls p (alx ls 1).1 (alx ls 1).2 (cfX ls 1 3).cb (cfX ls 1 3).qu (cfX ls 1 3).re) (rest2_ok hlt)
    · exact law_fin hV (r3206 ls p (alx ls 1).1 (alx ls 1).2 (cfX ls 1 3).cb (cfX ls 1 3).qu (cfX ls 1 3).re) (rest2_ok hlt)
    · exact law_fin hV (r3207 ls p (alx ls 1).1 (alx ls 1).2 (cfX ls 1 3).cb (cfX ls 1 3).qu (cfX ls 1 3).re) (rest2_ok hlt)
  · have hq : Know (.int .i64 (cfX ls 1 3).qu) (.iv .i64 (cfX ls 1 3).qu 1000 5000 1 0) := know_iv q3 q2
    have hV := env_of hm ht hq (know_iv r1 r2)
    rcases hn with hn | hn | hn | hn | hn | hn | hn | hn <;> rw [hn]
    · exact law_fin hV (r3210 ls p (alx ls 1).1 (alx ls 1).2 (cfX ls 1 3).cb (cfX ls 1 3).qu (cfX ls 1 3).re) (rest2_ok hlt)
    · exact law_fin hV (r3211 ls p (alx ls 1).1 (alx ls 1).2 (cfX ls 1 3).cb (cfX ls 1 3).qu (cfX ls 1 3).re) (rest2_ok hlt)
    · exact law_fin hV (r3212 ls p (alx ls 1).1 (alx ls 1).2 (cfX ls 1 3).cb (cfX ls 1 3).qu (cfX ls 1 3).re) (rest2_ok hlt)
    · exact law_fin hV (r3213 ls p (alx ls 1).1 (alx ls 1).2 (cfX ls 1 3).cb (cfX ls 1 3).qu (cfX ls 1 3).re) (rest2_ok hlt)
    · exact law_fin hV (r3214 ls p (alx ls 1).1 (alx ls 1).2 (cfX ls 1 3).cb (cfX ls 1 3).qu (cfX ls 1 3).re) (rest2_ok hlt)
    · exact law_fin hV (r3215 ls p (alx ls 1).1 (alx ls 1).2 (cfX ls 1 3).cb (cfX ls 1 3).qu (cfX ls 1 3).re) (rest2_ok hlt)
    · exact law_fin hV (r3216 ls p (alx ls 1).1 (alx ls 1).2 (cfX ls 1 3).cb (cfX ls 1 3).qu (cfX ls 1 3).re) (rest2_ok hlt)
    · exact law_fin hV (r3217 ls p (alx ls 1).1 (alx ls 1).2 (cfX ls 1 3).cb (cfX ls 1 3).qu (cfX ls 1 3).re) (rest2_ok hlt)
theorem all_cases (ls : List Int) (p : Int) : Ends ls p (p % 8) := by
  have m0 := nxt_lo ls 0 3
  have m1 := nxt_hi ls 0 3 (by omega)
  have t0 := nxt_lo ls (cfA ls 1) 3
  have t1 := nxt_hi ls (cfA ls 1) 3 (by omega)
  have hm : (1 : Int) = 1 + nxt ls 0 3 ∨ (2 : Int) = 1 + nxt ls 0 3 ∨ (3 : Int) = 1 + nxt ls 0 3 := by omega
  have ht : (0 : Int) = nxt ls (cfA ls 1) 3 ∨ (1 : Int) = nxt ls (cfA ls 1) 3 ∨ (2 : Int) = nxt ls (cfA ls 1) 3 := by omega
  rcases hm with hm | hm | hm <;> rcases ht with ht | ht | ht
  · exact case10 ls p hm ht
  · exact case11 ls p hm ht
  · exact case12 ls p hm ht
  · exact case20 ls p hm ht
  · exact case21 ls p hm ht
  · exact case22 ls p hm ht
  · exact case30 ls p hm ht
  · exact case31 ls p hm ht
  · exact case32 ls p hm ht
end Go.Proofs.YtlcconkbldnkmaaGreatDoor
