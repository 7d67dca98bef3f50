/- Part of the executor and its soundness, or of what it is told of this seat's program. No statement of the seat is proved here. -/
import Derived.Test.YtbppedokdfmnoaaGreatDoorSp
import Derived.Shelf.Strings.Builder2Cap
set_option linter.unusedSimpArgs false
set_option linter.unusedVariables false
namespace Go.Proofs.YtbppedokdfmnoaaGreatDoor
open Go.Sx
theorem L241 : Lays.n241 Tryz.prog Tryz.lays165_ren := { Tryz.lays165 with }
open Go.Shelf Go.RowKit
set_option maxHeartbeats 2000000 in
set_option maxRecDepth 1000000 in
theorem grow_run (b n : Nat) (a : Value) (w : World) (hbk : w.heap[b]? = some (.cells #[a, .slice none 0 0] 241 (0, 0))) (hn : n <= 281474976710656) :
  Calls Tryz.prog 247 #[.pointer (some ⟨b, 0, none⟩), .int .i64 n] w fun e w' => e = .returned (.tuple #[]) /\ ∃ cs : Array Value, n <= cs.size /\ (n <= maxLen -> cs.size <= maxLen) /\
   w' = (((w.setCell ⟨b, 1, none⟩ (.slice (some ⟨w.heap.size, 0, none⟩) 0 cs.size)).alloc (.cells cs 5)).drew.drew.drew) := by
 obtain ⟨cs, hrun, hle, hmax⟩ := Lib.run_makeNoZero (P := Tryz.prog) w.drew #[3] 128 5 Tryz.underlying128 n hn
 have hlt : b < w.heap.size := (Array.getElem?_eq_some_iff.1 hbk).1
 have hw : IntKind.i64.wrap (IntKind.i64.wrap 0 + (n : Int)) = n := by
  rw [IntKind.wrap_i64, IntKind.wrap_i64]; omega
 have hcall : (callFunc 305 #[.int .i64 (IntKind.i64.wrap (IntKind.i64.wrap 0 + (n : Int)))]).run Tryz.prog w.drew = .ok (.value (.slice (some ⟨w.drew.heap.size, 0, none⟩) n cs.size)) (w.drew.drew.drew.alloc (.cells cs 5)) := by
  rw [hw, run_callFunc_extern (fn := Tryz.f305) (by kernel_rfl) (by kernel_rfl) (by kernel_rfl) (by kernel_rfl) (e := Extern.BytealgMakeNoZero.makeNoZero #[3] #[128]) (by kernel_rfl), hrun]
  rfl
 have c1 : w.drew.cell? ⟨b, 1, none⟩ = some (.slice none 0 0) := by
  have : w.drew.heap[b]? = _ := hbk
  rw [Lib.cell_of_heap this]; rfl
 have c2 : (w.alloc (.cells cs 5)).cell? ⟨b, 1, none⟩ = some (.slice none 0 0) := by
  have : (w.alloc (.cells cs 5)).heap[b]? = _ := (Lib.alloc_old w _ b hlt).trans hbk
  rw [Lib.cell_of_heap this]; rfl
 have f2 : (w.alloc (.cells cs 5)).frozen? ⟨b, 1, none⟩ = false := Lib.frozen_of_heap ((Lib.alloc_old w _ b hlt).trans hbk) 1
 have hcopy : ∀ W : World, (Builtin.copy_ #[128, 128] 3 #[.slice (some ⟨w.heap.size, 0, none⟩) 0 cs.size, .slice none 0 0]).run Tryz.prog W = .ok (goInt 0) W :=
  fun W => run_copy_none W 128 128 3 5 _ _ 0 cs.size 0 0 Tryz.underlying128 (by kernel_rfl) rfl
 clear hw
 have mixed : Tryz.prog.follows .mixedOrders = true := L241.mixed
 have u241 := run_underlying Tryz.underlying241
 have u239 := run_underlying Tryz.underlying239
 have u128 := run_underlying Tryz.underlying128
 have u3 := run_underlying Tryz.underlying3
 have u5 := run_underlying Tryz.underlying5
 have t241 := Tryz.underlying241; have a241 := Tryz.isAgg241; have z241 := Tryz.sizeOf241; have v241 := Tryz.zeroValue241
 have t239 := Tryz.underlying239; have a239 := Tryz.isAgg239; have z239 := Tryz.sizeOf239; have v239 := Tryz.zeroValue239
 have t128 := Tryz.underlying128; have a128 := Tryz.isAgg128; have z128 := Tryz.sizeOf128; have v128 := Tryz.zeroValue128
 have t3 := Tryz.underlying3; have a3 := Tryz.isAgg3; have z3 := Tryz.sizeOf3; have v3 := Tryz.zeroValue3
 have t5 := Tryz.underlying5; have a5 := Tryz.isAgg5; have z5 := Tryz.sizeOf5; have v5 := Tryz.zeroValue5
 go_enter Tryz.func247, Tryz.ntmps247
 go_wp2
 go_region_o
 all_goals (go_wp2; go_end0; exact ⟨rfl, cs, hle, hmax, rfl⟩)
end Go.Proofs.YtbppedokdfmnoaaGreatDoor

namespace Go.Proofs.YtbppedokdfmnoaaGreatDoor
open Go.Sx
theorem setCell_alloc {w : World} {g o : Nat} {v : Value} {x : Obj} (hg : g < w.heap.size) : (w.setCell ⟨g, o, none⟩ v).alloc x = (w.alloc x).setCell ⟨g, o, none⟩ v := by
 unfold World.setCell World.alloc
 congr 1
 apply Array.ext_getElem?
 intro i
 simp only [Array.getElem?_push, Array.getElem?_modify, Array.size_modify]
 by_cases hi : i = w.heap.size
 ·subst hi
  rw [if_pos rfl, if_pos rfl, if_neg (by omega)]
 ·rw [if_neg hi, if_neg hi]
theorem grow_ok (l : List SV) (H : HW) (K : KV3) (h : growH l H K) : CallL Tryz.prog 247 l H K := by
 unfold growH at h
 split at h
 ·rename_i b n
  obtain ⟨h1, h⟩ := bChk_sound h
  obtain ⟨h2, h⟩ := bChk_sound h
  rw [leI_eq] at h1 h2
  have h1 := of_decide_eq_true h1
  have h2 := of_decide_eq_true h2
  rw [getH_eq] at h
  obtain ⟨blk, hb, h⟩ := nthK_sound h
  split at h
  ·rename_i T x
   obtain ⟨hT, h⟩ := bChk_sound h
   have hT := Nat.eq_of_beq_eq_true hT
   subst hT
   obtain ⟨H1, hk1, hv1⟩ := pushH_sound h
   obtain ⟨H', hk, hlt, hv⟩ := setH_sound hk1
   have hbl : b < H.view.length := (List.getElem?_eq_some_iff.1 hb).1
   refine CallL.kit (fn := Tryz.f247) (by kernel_rfl) (by rfl) rfl hk (fun i hi hn => ?_) (by rw [hv, hv1]; simp) fun w X σ vs hI hr => ?_
   ·rw [hv, List.getElem?_set_ne (by intro hbi; subst hbi; simp at hn), hv1, List.getElem?_append_left hi]
   ·obtain ⟨y, z, rfl, r1, r2⟩ := repl2 hr
    obtain ⟨g, cs0, hσ, hg, hl, hc⟩ := fix_of hI hb
    have hy := ptr_of hσ r1
    subst hy
    cases r2
    have hs2 : cs0.size = 2 := by simp at hl; omega
    have c1 : cs0[1]? = some (.slice none 0 0) := by
     have := hc 1 .nils cs0[1] rfl (Array.getElem?_eq_getElem (by omega))
     rw [Array.getElem?_eq_getElem (by omega)]
     generalize cs0[1] = u at this
     cases this.1; rfl
    have hcs : cs0 = #[cs0[0], .slice none 0 0] := by
     apply Array.ext_getElem?
     intro i
     match i with
     | 0 => simp [hs2]
     | 1 => rw [c1]; rfl
     | i + 2 => rw [Array.getElem?_eq_none (by omega)]; rfl
    have hgl : g < w.heap.size := (Array.getElem?_eq_some_iff.1 hg).1
    obtain ⟨k, rfl⟩ := Int.eq_ofNat_of_zero_le (show 0 <= n by omega)
    refine (grow_run g k cs0[0] w (by rw [hg]; congr 2) (by omega)).mono fun e w' ⟨he, cs, hle, hmax, hw⟩ => ⟨_, he, ?_⟩
    rw [setCell_alloc hgl] at hw
    obtain ⟨hI2, hS2⟩ := hI.fresh
    have hf : (H.view ++ [Blk.fresh])[H.view.length]? = some .fresh := by simp
    have hl2 : σ.length = H.view.length := hI.len
    have hm : cs.size <= maxLen := hmax (by unfold maxLen; omega)
    have hI3 := alloc_inv (w' := w.alloc (.cells cs 5)) hI2 hf (e := .row w.heap.size 1 0 cs.size) (b := .row 5 1 []) rfl rfl rfl rfl (o := .cells cs 5) rfl
     ⟨rfl, rfl, Nat.zero_le _, hm, cs, RowAt.of (heap_alloc_new w _), by simp, by simp⟩
    have hS3 := alloc_step (w' := w.alloc (.cells cs 5)) hI2 hf (e := .row w.heap.size 1 0 cs.size) rfl rfl rfl rfl (o := .cells cs 5) rfl
    have hS4 := hS2.trans hS3.any
    rw [setEnd, <- hv1] at hI3
    have hσ3 : ((σ ++ [Ent.fresh]).set H.view.length (.row w.heap.size 1 0 cs.size))[b]? = some (.fix g) := by
     rw [List.getElem?_set_ne (by omega), List.getElem?_append_left (by omega)]; exact hσ
    have hr3 : ((σ ++ [Ent.fresh]).set H.view.length (.row w.heap.size 1 0 cs.size))[H.view.length]? = some (.row w.heap.size 1 0 cs.size) := by
     rw [List.getElem?_set, if_pos rfl, if_pos (by simp [hl2])]
    have hg3 : (w.alloc (.cells cs 5)).heap[g]? = some (.cells cs0 241 (0, 0)) := (Lib.alloc_old w _ g hgl).trans hg
    rw [setCell_eq_setRow _ g 1 cs0 241 (0, 0) _ hg3] at hw
    obtain ⟨f1, f2, f3, f4, f5⟩ := setRow_facts (w := w.alloc (.cells cs 5)) (g := g) (cs := cs0.setIfInBounds 1 (.slice (some ⟨w.heap.size, 0, none⟩) 0 cs.size))
    have hS5 := (write_step hσ3 rfl f1 f2 f3 f4 f5)
    have hI5 := write_inv hI3 hσ3 rfl f1 f2 f3 f4 f5 (b := .fix 241 [x, .sl H.view.length]) ⟨_, setRow_heap _ g cs0 _ 241 (0, 0) hg3, by simpa using hl, fun i s u hs hu => by
     match i with
     | 0 =>
      rw [Array.getElem?_setIfInBounds_ne (by omega)] at hu
      have := hc 0 s u (by simpa using hs) hu
      exact ⟨(this.1.step hS4 (Nat.le_refl _)).step hS5 (Nat.le_refl _), this.2⟩
     | 1 =>
      simp at hs; subst hs
      rw [Array.getElem?_setIfInBounds_self_of_lt (by omega)] at hu
      simp at hu; subst hu
      exact ⟨.sl hr3, rfl⟩
     | i + 2 => simp at hs⟩
    rw [<- hv] at hI5
    have hS6 := hS4.trans hS5.any
    rw [hw]
    exact ⟨_, rep_tup0, (hI5.heap rfl), ⟨hS6.os, hS6.tape, hS6.output, hS6.size, hS6.frame, hS6.blks, hS6.ents⟩⟩
  ·exact h.elim
 ·exact h.elim
end Go.Proofs.YtbppedokdfmnoaaGreatDoor
