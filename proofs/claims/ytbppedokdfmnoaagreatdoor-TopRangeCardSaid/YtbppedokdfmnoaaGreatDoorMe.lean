/- Part of the executor and its soundness, or of what it is told of this seat's program. No statement of the seat is proved here. -/
import Derived.Test.YtbppedokdfmnoaaGreatDoorTb
import Derived.Test.YtbppedokdfmnoaaGreatDoorSq
import Derived.Test.YtbppedokdfmnoaaGreatDoorGw
import Derived.Test.YtbppedokdfmnoaaGreatDoorSp
set_option linter.unusedSimpArgs false
set_option linter.unusedVariables false
namespace Go.Sx
theorem assocD_mem {β : Type} {f : Nat} {x : β} : ∀ {l : List (Nat × β)}, assocD f l = some x -> (f, x) ∈ l := by
 intro l
 induction l with
 | nil => intro h; simp [assocD] at h
 | cons p l ih =>
  intro h
  have h : Bool.rec (motive := fun _ => Option β) (assocD f l) (some p.2) (Nat.beq p.1 f) = some x := h
  cases hb : Nat.beq p.1 f with
  | true =>
   rw [hb] at h
   have := Nat.eq_of_beq_eq_true hb
   simp at h
   subst h; subst this
   simp
  | false =>
   rw [hb] at h
   simp [ih h]
end Go.Sx
namespace Go.Proofs.YtbppedokdfmnoaaGreatDoor
open Go.Sx
theorem least_some {l : List String} (h : l ≠ []) : (Instr.least l).isSome = true := by
 cases l with
 | nil => exact absurd rfl h
 | cons x l =>
  first
   | rfl
   | (unfold Instr.least; simp)
theorem part_some (p : String -> Bool) (f : String -> String) (missing : List String) (x : String) (hin : x ∈ missing) :
  (match List.partition p missing with | (un, ex) => (Instr.least ex <|> Instr.least (List.map f un))).isNone = false := by
 rw [List.partition_eq_filter_filter]
 simp only
 by_cases hc : p x = true
 ·have h1 : List.filter p missing ≠ [] := List.ne_nil_of_mem (List.mem_filter.2 ⟨hin, hc⟩)
  cases h2 : Instr.least (List.filter (not ∘ p) missing) with
  | some y => rfl
  | none =>
   have h3 : ((List.filter p missing).map f) ≠ [] := by simpa using h1
   have h4 := least_some h3
   revert h4
   cases Instr.least ((List.filter p missing).map f) <;> simp
 ·have h1 : List.filter (not ∘ p) missing ≠ [] := List.ne_nil_of_mem (List.mem_filter.2 ⟨hin, by simpa using hc⟩)
  have h4 := least_some h1
  revert h4
  cases Instr.least (List.filter (not ∘ p) missing) <;> simp
theorem missing_some {want : Array (String × TypeId)} {got : Array Method} {e : String × TypeId} (he : e ∈ want.toList) (hn : (got.any fun m => m.name == e.1 && m.sig == e.2) = false) : (Instr.missingMethod want got).isNone = false := by
 unfold Instr.missingMethod
 simp only
 generalize hm : (List.map (fun x => x.fst) (List.filter (fun x => match x with | (name, sig) => !got.any fun m => m.name == name && m.sig == sig) want.toList)) = missing
 have hin : e.1 ∈ missing := by
  rw [<- hm]
  refine List.mem_map.2 ⟨e, List.mem_filter.2 ⟨he, ?_⟩, rfl⟩
  obtain ⟨a, b⟩ := e
  simp only at hn ⊢
  rw [hn]; rfl
 exact part_some _ _ missing e.1 hin
def itB (P : Program) (e : TypeId × TypeId × Bool) : Bool := match P.underlying e.1, P.info? e.2.1 with
 | some (.interface ms), some i => match e.2.2 with
  | true => ms.toList.all fun x => i.methods.any fun m => m.name == x.1 && m.sig == x.2
  | false => ms.toList.any fun x => !(i.methods.any fun m => m.name == x.1 && m.sig == x.2)
 | _, _ => false
theorem it_all : itab.all (itB Tryz.prog) = true := by kernel_rfl
theorem missing_none {want : Array (String × TypeId)} {got : Array Method} (h : (want.toList.all fun x => got.any fun m => m.name == x.1 && m.sig == x.2) = true) : (Instr.missingMethod want got).isNone = true := by
 unfold Instr.missingMethod
 have : List.filter (fun x => match x with | (name, sig) => !got.any fun m => m.name == name && m.sig == sig) want.toList = [] := by
  rw [List.filter_eq_nil_iff]
  intro x hx
  have := List.all_eq_true.1 h x hx
  obtain ⟨a, b⟩ := x
  simp only at this ⊢
  rw [this]; simp
 simp only [this]
 rfl
theorem it_ok : ITOK Tryz.prog itab := by
 intro e he
 have h := List.all_eq_true.1 it_all e he
 unfold itB at h
 split at h
 ·rename_i ms i h1 h2
  refine ⟨ms, i, h1, h2, ?_⟩
  obtain ⟨t, u, b⟩ := e
  cases b with
  | true => exact missing_none h
  | false =>
   obtain ⟨x, hx, hn⟩ := List.any_eq_true.1 h
   exact missing_some hx (by simpa using hn)
 ·exact absurd h (by simp)
theorem env_ok : EnvOK Tryz.prog env0 where
 tab := tab_ok
 ft := ft_ok
 mt := mt_ok
 mixed := by kernel_rfl
 it := it_ok
 ps := fun f sp h => by
  have := assocD_mem h
  simp only [env0, pspecs, List.mem_cons, List.not_mem_nil, or_false, Prod.mk.injEq] at this
  rcases this with ⟨rfl, rfl⟩ | ⟨rfl, rfl⟩ | ⟨rfl, rfl⟩
  ·exact count_ok
  ·exact index_ok
  ·exact same_ok
 hs := fun f sp h => by
  have := assocD_mem h
  simp only [env0, hspecs, List.mem_cons, List.not_mem_nil, or_false, Prod.mk.injEq] at this
  rcases this with ⟨rfl, rfl⟩ | ⟨rfl, rfl⟩ | ⟨rfl, rfl⟩ | ⟨rfl, rfl⟩ | ⟨rfl, rfl⟩
  ·exact clone_ok
  ·exact seq_ok
  ·exact check_ok
  ·exact grow_ok
  ·exact fmt_ok
end Go.Proofs.YtbppedokdfmnoaaGreatDoor

namespace Go.Proofs.YtbppedokdfmnoaaGreatDoor
open Go.Sx
noncomputable def pow10 : List SV := Go.Lib.pow10Tab.map fun z => SV.int .u64 z
noncomputable def gH : HW := ⟨1, ⟨⟨⟨.glob 0 457 pow10, .dead, .dead, .dead, .dead, .dead, .dead, .dead, .dead, .dead, .dead, .dead, .dead, .dead, .dead, .dead⟩, R16.rep .dead, R16.rep .dead, R16.rep .dead, R16.rep .dead, R16.rep .dead, R16.rep .dead, R16.rep .dead, R16.rep .dead, R16.rep .dead, R16.rep .dead, R16.rep .dead, R16.rep .dead, R16.rep .dead, R16.rep .dead, R16.rep .dead⟩, R16.rep (R16.rep .dead), R16.rep (R16.rep .dead), R16.rep (R16.rep .dead), R16.rep (R16.rep .dead), R16.rep (R16.rep .dead), R16.rep (R16.rep .dead), R16.rep (R16.rep .dead), R16.rep (R16.rep .dead), R16.rep (R16.rep .dead), R16.rep (R16.rep .dead), R16.rep (R16.rep .dead), R16.rep (R16.rep .dead), R16.rep (R16.rep .dead), R16.rep (R16.rep .dead), R16.rep (R16.rep .dead)⟩⟩
theorem gH_view : gH.view = [.glob 0 457 pow10] := by kernel_rfl
theorem pow_nums : numsB pow10 = true := by kernel_rfl
def fuel : Nat := 100000
noncomputable abbrev run (V : Env) : RecV := runV Tryz.prog V fuel
theorem sane_run : callsV Tryz.prog env0 (run env0) 14 [] gH (isK .tt) = True := by kernel_rfl
theorem sane_ok : ∀ (l : List SV) (H : HW) (K : KV3), constH [] .tt 457 pow10 l H K -> CallL Tryz.prog 14 l H K := constH_run (f := 14) (args := []) (s := .tt) env_ok fuel gH_view sane_run pow_nums (by kernel_rfl) (by kernel_rfl)
end Go.Proofs.YtbppedokdfmnoaaGreatDoor
namespace Go.Sx
noncomputable def flZ (n : Nat) : List SV := Nat.rec [] (fun _ l => .int .i64 0 :: .int .i64 0 :: .int .i64 0 :: .int .i64 0 :: .int .i64 0 :: .int .i64 0 :: (.nils :: l)) n
noncomputable def fwT (x : R16 SV) : FW := ⟨x, R16.rep .any, R16.rep .any, R16.rep .any, R16.rep .any, R16.rep .any, R16.rep .any, R16.rep .any, R16.rep .any, R16.rep .any, R16.rep .any, R16.rep .any, R16.rep .any, R16.rep .any, R16.rep .any, R16.rep .any⟩
noncomputable def hwT (n : Nat) (x : R16 (R16 Blk)) : HW := ⟨n, ⟨x, R16.rep (R16.rep .dead), R16.rep (R16.rep .dead), R16.rep (R16.rep .dead), R16.rep (R16.rep .dead), R16.rep (R16.rep .dead), R16.rep (R16.rep .dead), R16.rep (R16.rep .dead), R16.rep (R16.rep .dead), R16.rep (R16.rep .dead), R16.rep (R16.rep .dead), R16.rep (R16.rep .dead), R16.rep (R16.rep .dead), R16.rep (R16.rep .dead), R16.rep (R16.rep .dead), R16.rep (R16.rep .dead)⟩⟩
end Go.Sx
