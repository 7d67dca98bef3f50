/- Part of the executor and its soundness, or of what it is told of this seat's program. No statement of the seat is proved here. -/
import Derived.Shelf.Lay
import Derived.Shelf.LaySoft
import Derived.Shelf.Strconv.Itoa3
import Derived.Shelf.Strings.Builder1
import Derived.Shelf.Strings.Builder2
import Derived.Shelf.Strings.Builder2Cap
import Derived.Test.YtbppedokdfmnoaaGreatDoorProg
import Derived.KernelRfl
import Derived.Test.YtbppedokdfmnoaaGreatDoorTb
set_option linter.unusedSimpArgs false
set_option linter.unusedVariables false
namespace Go.Proofs
open Go.Shelf
def Tryz.laysM246_ren : Go.Shelf.Ren := ⟨fun | 246 => 180 | 283 => 243 | 284 => 244 | 285 => 245 | 286 => 246 | 129 => 301 | 317 => 300 | 318 => 302 | 319 => 303 | 320 => 304 | 337 => 344 | 338 => 345 | n => n, fun | 2 => 2 | 3 => 3 | 9 => 9 | 4 => 4 | 171 => 405 | 0 => 0 | 53 => 234 | 37 => 128 | 5 => 5 | 173 => 408 | 212 => 457 | 51 => 458 | 20 => 20 | 213 => 459 | 46 => 157 | 232 => 516 | 233 => 517 | n => n, fun | 17 => 0 | 18 => 8 | 19 => 9 | n => n⟩
theorem Tryz.laysM246 : Go.Proofs.LaysM.n246 Tryz.prog Tryz.laysM246_ren where
  mixed := by kernel_rfl
  f129 := Tryz.func301.trans (congrArg some (by kernel_rfl))
  f246 := Tryz.func180.trans (congrArg some (by kernel_rfl))
  f283 := Tryz.func243.trans (congrArg some (by kernel_rfl))
  f284 := Tryz.func244.trans (congrArg some (by kernel_rfl))
  f285 := Tryz.func245.trans (congrArg some (by kernel_rfl))
  f286 := Tryz.func246.trans (congrArg some (by kernel_rfl))
  f317 := Tryz.func300.trans (congrArg some (by kernel_rfl))
  f318 := Tryz.func302.trans (congrArg some (by kernel_rfl))
  f319 := Tryz.func303.trans (congrArg some (by kernel_rfl))
  f320 := Tryz.func304.trans (congrArg some (by kernel_rfl))
  f337 := Tryz.func344.trans (congrArg some (by kernel_rfl))
  f338 := Tryz.func345.trans (congrArg some (by kernel_rfl))
  t0 := Tryz.underlying0
  a0 := Tryz.isAgg0
  z0 := Tryz.sizeOf0
  v0 := Tryz.zeroValue0
  t2 := Tryz.underlying2
  a2 := Tryz.isAgg2
  z2 := Tryz.sizeOf2
  v2 := Tryz.zeroValue2
  t3 := Tryz.underlying3
  a3 := Tryz.isAgg3
  z3 := Tryz.sizeOf3
  v3 := Tryz.zeroValue3
  t4 := Tryz.underlying4
  a4 := Tryz.isAgg4
  z4 := Tryz.sizeOf4
  v4 := Tryz.zeroValue4
  t5 := Tryz.underlying5
  a5 := Tryz.isAgg5
  z5 := Tryz.sizeOf5
  v5 := Tryz.zeroValue5
  t9 := Tryz.underlying9
  a9 := Tryz.isAgg9
  z9 := Tryz.sizeOf9
  v9 := Tryz.zeroValue9
  t20 := Tryz.underlying20
  a20 := Tryz.isAgg20
  z20 := Tryz.sizeOf20
  v20 := Tryz.zeroValue20
  t37 := Tryz.underlying128
  a37 := Tryz.isAgg128
  z37 := Tryz.sizeOf128
  v37 := Tryz.zeroValue128
  t46 := Tryz.underlying157
  a46 := Tryz.isAgg157
  z46 := Tryz.sizeOf157
  v46 := Tryz.zeroValue157
  t51 := Tryz.underlying458
  a51 := Tryz.isAgg458
  z51 := Tryz.sizeOf458
  v51 := Tryz.zeroValue458
  t53 := Tryz.underlying234
  a53 := Tryz.isAgg234
  z53 := Tryz.sizeOf234
  v53 := Tryz.zeroValue234
  t171 := Tryz.underlying405
  a171 := Tryz.isAgg405
  z171 := Tryz.sizeOf405
  v171 := Tryz.zeroValue405
  t173 := Tryz.underlying408
  a173 := Tryz.isAgg408
  z173 := Tryz.sizeOf408
  v173 := Tryz.zeroValue408
  t212 := Tryz.underlying457
  a212 := Tryz.isAgg457
  z212 := Tryz.sizeOf457
  v212 := Tryz.zeroValue457
  t213 := Tryz.underlying459
  a213 := Tryz.isAgg459
  z213 := Tryz.sizeOf459
  t232 := Tryz.underlying516
  a232 := Tryz.isAgg516
  z232 := Tryz.sizeOf516
  v232 := Tryz.zeroValue516
  t233 := Tryz.underlying517
  a233 := Tryz.isAgg517
  z233 := Tryz.sizeOf517
  v233 := Tryz.zeroValue517
  g17 := by kernel_rfl
  g18 := by kernel_rfl
  g19 := by kernel_rfl
  i0 := by kernel_rfl
  i2 := by kernel_rfl
  i3 := by kernel_rfl
  i4 := by kernel_rfl
  i5 := by kernel_rfl
  i9 := by kernel_rfl
  i20 := by kernel_rfl
  i37 := by kernel_rfl
  i46 := by kernel_rfl
  i51 := by kernel_rfl
  i53 := by kernel_rfl
  i171 := by kernel_rfl
  i173 := by kernel_rfl
  i212 := by kernel_rfl
  i232 := by kernel_rfl
  i233 := by kernel_rfl
  m17 := by kernel_rfl
  m18 := by kernel_rfl
  m19 := by kernel_rfl
def Tryz.lays169_ren : Go.Shelf.Ren := ⟨fun | 169 => 118 | n => n, fun | 70 => 239 | 9 => 9 | 0 => 0 | 72 => 241 | 37 => 128 | 127 => 354 | 3 => 3 | 5 => 5 | n => n, fun | n => n⟩
theorem Tryz.lays169 : Go.Proofs.Lays.n169 Tryz.prog Tryz.lays169_ren where
  mixed := by kernel_rfl
  f169 := Tryz.func118.trans (congrArg some (by kernel_rfl))
  t0 := Tryz.underlying0
  a0 := Tryz.isAgg0
  z0 := Tryz.sizeOf0
  v0 := Tryz.zeroValue0
  t3 := Tryz.underlying3
  a3 := Tryz.isAgg3
  z3 := Tryz.sizeOf3
  v3 := Tryz.zeroValue3
  t9 := Tryz.underlying9
  a9 := Tryz.isAgg9
  z9 := Tryz.sizeOf9
  v9 := Tryz.zeroValue9
  t37 := Tryz.underlying128
  a37 := Tryz.isAgg128
  z37 := Tryz.sizeOf128
  v37 := Tryz.zeroValue128
  t70 := Tryz.underlying239
  a70 := Tryz.isAgg239
  z70 := Tryz.sizeOf239
  v70 := Tryz.zeroValue239
  t72 := Tryz.underlying241
  a72 := Tryz.isAgg241
  z72 := Tryz.sizeOf241
  v72 := Tryz.zeroValue241
  t127 := Tryz.underlying354
  a127 := Tryz.isAgg354
  z127 := Tryz.sizeOf354
  v127 := Tryz.zeroValue354
def Tryz.lays165_ren : Go.Shelf.Ren := ⟨fun | 165 => 181 | 240 => 183 | 241 => 247 | 276 => 249 | 277 => 305 | n => n, fun | 70 => 239 | 3 => 3 | 0 => 0 | 4 => 4 | 9 => 9 | 20 => 20 | 72 => 241 | 37 => 128 | 164 => 410 | 5 => 5 | n => n, fun | n => n⟩
theorem Tryz.lays165 : Go.Proofs.Lays.n165 Tryz.prog Tryz.lays165_ren where
  mixed := by kernel_rfl
  f165 := Tryz.func181.trans (congrArg some (by kernel_rfl))
  f240 := Tryz.func183.trans (congrArg some (by kernel_rfl))
  f241 := Tryz.func247.trans (congrArg some (by kernel_rfl))
  f276 := Tryz.func249.trans (congrArg some (by kernel_rfl))
  f277 := Tryz.func305.trans (congrArg some (by kernel_rfl))
  t0 := Tryz.underlying0
  a0 := Tryz.isAgg0
  z0 := Tryz.sizeOf0
  v0 := Tryz.zeroValue0
  t3 := Tryz.underlying3
  a3 := Tryz.isAgg3
  z3 := Tryz.sizeOf3
  v3 := Tryz.zeroValue3
  t4 := Tryz.underlying4
  a4 := Tryz.isAgg4
  z4 := Tryz.sizeOf4
  v4 := Tryz.zeroValue4
  t9 := Tryz.underlying9
  a9 := Tryz.isAgg9
  z9 := Tryz.sizeOf9
  v9 := Tryz.zeroValue9
  t20 := Tryz.underlying20
  a20 := Tryz.isAgg20
  z20 := Tryz.sizeOf20
  v20 := Tryz.zeroValue20
  t37 := Tryz.underlying128
  a37 := Tryz.isAgg128
  z37 := Tryz.sizeOf128
  v37 := Tryz.zeroValue128
  t70 := Tryz.underlying239
  a70 := Tryz.isAgg239
  z70 := Tryz.sizeOf239
  v70 := Tryz.zeroValue239
  t72 := Tryz.underlying241
  a72 := Tryz.isAgg241
  z72 := Tryz.sizeOf241
  v72 := Tryz.zeroValue241
  t164 := Tryz.underlying410
  a164 := Tryz.isAgg410
  z164 := Tryz.sizeOf410
  v164 := Tryz.zeroValue410
end Go.Proofs

namespace Go.Sx
open Go.Sort
section
variable {P : Program}
theorem grow_inv {w w' : World} {X : Nat -> Prop} {σ : Sg} {h : Hp} (hI : Inv w X σ h) (ho : w'.os = w.os) (ht : w'.tape = w.tape) (hout : w'.output = w.output) (hs : w.heap.size <= w'.heap.size)
  (hw : ∀ g, g < w.heap.size -> w'.heap[g]? = w.heap[g]?) : Inv w' X σ h /\ Step σ.length w σ w' σ := by
 have hS : Step σ.length w σ w' σ := ⟨ho, ht, hout, hs, fun g hg _ => hw g hg, fun _ h _ => h, fun _ _ _ h _ => .inl h⟩
 exact ⟨⟨hI.len, fun i b e hb he => (hI.ok i b e hb he).step hS (Nat.le_refl _) fun g hg => hw g (hI.lt i e g he hg), fun i e g he hg => Nat.lt_of_lt_of_le (hI.lt i e g he hg) hs, hI.inj, hI.dis, fun g hx => Nat.lt_of_lt_of_le (hI.xlt g hx) hs⟩, hS⟩
theorem CallL.kit {f : FuncId} {fn : Func} {c : Code} {l : List SV} {H H' : HW} {wr : List Nat} {s : SV} {K : KV3} (hf : P.funcs[f]? = some fn) (hn : (fn.name == "runtime.NumGoroutine") = false) (hb : fn.body = some c)
  (hk : K s H' wr) (hc : Chg H.view H'.view wr) (hle : H.view.length <= H'.view.length)
  (hrun : ∀ (w : World) (X : Nat -> Prop) (σ : Sg) (vs : List Value), Inv w X σ H.view -> RepL w (Ex X σ) σ l vs ->
   Calls P f vs.toArray w fun e w' => ∃ v, e = .returned v /\ ∃ σ', Rep w' (Ex X σ') σ' s v /\ Inv w' X σ' H'.view /\ Step σ.length w σ w' σ') : CallL P f l H K :=
 ⟨s, H', wr, hk, hc, hle, ⟨fun w X σ vs hI hr => by
  have he : (callFunc f vs.toArray).run P w = .ok (.enter f vs.toArray) w := Go.Proofs.enters_of hf hn hb vs.toArray w
  unfold DoneS
  rw [he]
  exact (hrun w X σ vs hI hr).mono fun e w' ⟨v, h1, σ', h2, h3, h4⟩ => ⟨v, h1, s, _, σ', ⟨rfl, rfl⟩, h2, h3, h4⟩⟩⟩
theorem CallL.ext {f : FuncId} {l : List SV} {H H' : HW} {wr : List Nat} {s : SV} {K : KV3} (hk : K s H' wr) (hc : Chg H.view H'.view wr) (hle : H.view.length <= H'.view.length)
  (hrun : ∀ (w : World) (X : Nat -> Prop) (σ : Sg) (vs : List Value), Inv w X σ H.view -> RepL w (Ex X σ) σ l vs ->
   ∃ v w' σ', (callFunc f vs.toArray).run P w = .ok (.value v) w' /\ Rep w' (Ex X σ') σ' s v /\ Inv w' X σ' H'.view /\ Step σ.length w σ w' σ') : CallL P f l H K :=
 ⟨s, H', wr, hk, hc, hle, ⟨fun w X σ vs hI hr => by
  obtain ⟨v, w', σ', h1, h2, h3, h4⟩ := hrun w X σ vs hI hr
  unfold DoneS
  rw [h1]
  exact ⟨s, _, σ', ⟨rfl, rfl⟩, h2, h3, h4⟩⟩⟩
end
end Go.Sx
namespace Go.Proofs.YtbppedokdfmnoaaGreatDoor
open Go.Sx
theorem digK_sound : ∀ (f n : Nat) {acc : List UInt8} {k : List UInt8 -> Prop}, digK f n acc k -> k (Go.Lib.decDigits n ++ acc) := by
 intro f
 induction f with
 | zero => intro n acc k h; exact h.elim
 | succ f ih =>
  intro n acc k h
  have h0' : natF (Nat.div n 10) (fun q => natF (Nat.mod n 10) fun r => Bool.rec (motive := fun _ => Prop) (digK f q (UInt8.ofNat (Nat.add 48 r) :: acc) k) (k (UInt8.ofNat (Nat.add 48 r) :: acc)) (Nat.beq q 0)) := h
  have h1 := natF_sound (k := fun q => natF (Nat.mod n 10) fun r => Bool.rec (motive := fun _ => Prop) (digK f q (UInt8.ofNat (Nat.add 48 r) :: acc) k) (k (UInt8.ofNat (Nat.add 48 r) :: acc)) (Nat.beq q 0)) h0'
  have h2 := natF_sound (k := fun r => Bool.rec (motive := fun _ => Prop) (digK f (Nat.div n 10) (UInt8.ofNat (Nat.add 48 r) :: acc) k) (k (UInt8.ofNat (Nat.add 48 r) :: acc)) (Nat.beq (Nat.div n 10) 0)) h1
  clear h1
  clear h h0'
  cases hq : Nat.beq (Nat.div n 10) 0 with
  | true =>
   rw [hq] at h2
   have h0 : n / 10 = 0 := Nat.eq_of_beq_eq_true hq
   have hlt : n < 10 := by omega
   rw [Go.Lib.decDigits_one hlt]
   have : Nat.mod n 10 = n := Nat.mod_eq_of_lt hlt
   rw [this] at h2
   exact h2
  | false =>
   rw [hq] at h2
   have h0 : n / 10 ≠ 0 := fun h => by
    have : Nat.beq (Nat.div n 10) 0 = true := by show Nat.beq (n / 10) 0 = true; rw [h]; rfl
    rw [hq] at this; simp at this
   have hge : ¬ n < 10 := by omega
   have h3 := ih _ h2
   rw [Go.Lib.decDigits, dif_neg hge]
   have : (Go.Lib.decDigits (n / 10) ++ [UInt8.ofNat (48 + n % 10)]) ++ acc = Go.Lib.decDigits (n / 10) ++ UInt8.ofNat (48 + n % 10) :: acc := by simp
   rw [this]
   exact h3
theorem powK_sound (cs : List SV) : ∀ {p : Nat} {k : Prop}, powK cs p k -> k /\ cs = (List.range cs.length).map fun i => SV.int .u64 ((p * 10 ^ i : Nat) : Int) := by
 induction cs with
 | nil => intro p k h; exact ⟨h, rfl⟩
 | cons s cs ih =>
  intro p k h
  cases s with
  | int q v =>
   cases q <;> first | exact False.elim h | skip
   obtain ⟨h1, h2⟩ := bChk_sound (show bChk (Nat.beq v.toNat p) (bChk (leI 0 v) (natF (Nat.mul 10 p) fun p' => powK cs p' k)) from h)
   obtain ⟨h3, h4⟩ := bChk_sound h2
   rw [leI_eq] at h3
   have h3 := of_decide_eq_true h3
   have h1 := Nat.eq_of_beq_eq_true h1
   obtain ⟨hk, hcs⟩ := ih (natF_sound h4)
   refine ⟨hk, ?_⟩
   rw [List.length_cons, List.range_succ_eq_map, List.map_cons, List.map_map]
   congr 1
   ·congr 1; simp; omega
   ·rw [hcs]
    simp only [List.length_map, List.length_range]
    apply List.map_congr_left
    intro i _
    simp only [Function.comp]
    congr 2
    rw [Nat.pow_succ, Nat.mul_comm (10 ^ i) 10, <- Nat.mul_assoc, Nat.mul_comm p 10]
    rfl
  | _ => exact False.elim h
theorem tab10 {cs : List SV} {k : Prop} (hl : cs.length = 20) (h : powK cs 1 k) : k /\ cs = Go.Lib.pow10Tab.map fun z => SV.int .u64 z := by
 obtain ⟨hk, hcs⟩ := powK_sound cs h
 refine ⟨hk, ?_⟩
 rw [hcs, hl]
 simp only [Go.Lib.pow10Tab, List.map_map]
 apply List.map_congr_left
 intro i _
 simp
theorem tab_glob {w : World} {X : Nat -> Prop} {σ : Sg} {h : Hp} (hI : Inv w X σ h) {T : TypeId} (hb : h[0]? = some (.glob 0 T (Go.Lib.pow10Tab.map fun z => SV.int .u64 z))) : Go.Lib.TabIs Tryz.prog w "internal/strconv.uint64pow10" .u64 Go.Lib.pow10Tab := by
 have hlt : 0 < σ.length := by rw [hI.len]; exact (List.getElem?_eq_some_iff.1 hb).1
 have he : σ[0]? = some (σ[0]'hlt) := List.getElem?_eq_getElem hlt
 have hok := hI.ok 0 _ _ hb he
 cases hσ : σ[0]'hlt <;> rw [hσ] at hok he <;> simp only [BlkOK] at hok
 obtain ⟨rfl, vs, h1, h2, h3⟩ := hok
 have hg : Tryz.prog.globalNamed "internal/strconv.uint64pow10" = some 0 := by kernel_rfl
 unfold Go.Lib.TabIs World.var?
 rw [hg]
 simp only [Option.bind_some, h1]
 congr 1
 apply Array.ext_getElem?
 intro i
 rw [show ((Go.Lib.pow10Tab.map fun z => Value.int .u64 z).toArray)[i]? = (Go.Lib.pow10Tab[i]?).map (fun z => Value.int .u64 z) by simp]
 have hl : vs.size = Go.Lib.pow10Tab.length := by rw [<- h2]; simp
 by_cases hi : i < vs.size
 ·have h4 : (Go.Lib.pow10Tab.map fun z => SV.int .u64 z)[i]? = some (.int .u64 (Go.Lib.pow10Tab[i]'(by omega))) := by
   rw [List.getElem?_map, List.getElem?_eq_getElem (by omega)]; rfl
  have := (h3 i _ _ h4 (Array.getElem?_eq_getElem hi)).1
  rw [Array.getElem?_eq_getElem hi, List.getElem?_eq_getElem (by omega)]
  generalize vs[i] = v at this
  cases this
  rfl
 ·rw [Array.getElem?_eq_none (by omega), List.getElem?_eq_none (by omega)]; rfl
theorem fmt_ok (l : List SV) (H : HW) (K : KV3) (h : fmtH l H K) : CallL Tryz.prog 180 l H K := by
 unfold fmtH at h
 split at h
 ·rename_i n m
  obtain ⟨h1, h⟩ := bChk_sound h
  obtain ⟨h2, h⟩ := bChk_sound h
  obtain ⟨h3, h⟩ := bChk_sound h
  rw [getH_eq] at h
  obtain ⟨blk, hb, h⟩ := nthK_sound h
  split at h
  ·rename_i T cs
   obtain ⟨_, h⟩ := bChk_sound h
   obtain ⟨hl, h⟩ := eqNK_sound h
   obtain ⟨hk0, hcs⟩ := tab10 hl h
   have hk1 := digK_sound (k := fun s => K (.str s) H []) 20 n.toNat (natF_sound (k := fun u => digK 20 u [] fun s => K (.str s) H []) hk0)
   clear hk0 h
   rw [leI_eq] at h2 h3
   have h2 := of_decide_eq_true h2
   have h3 := of_decide_eq_true h3
   have h1 := Nat.eq_of_beq_eq_true h1
   subst hcs
   refine CallL.kit (fn := Tryz.f180) (by kernel_rfl) (by rfl) rfl hk1 (Chg.refl _ _) (Nat.le_refl _) fun w X σ vs hI hr => ?_
   obtain ⟨x, y, rfl, r1, r2⟩ := repl2 hr
   cases r1; cases r2
   have hm : m = 10 := by omega
   subst hm
   refine (Any.internal_strconv_FormatInt_10 Tryz.laysM246 n (by omega) h3 w (tab_glob hI hb)).mono fun e w' ⟨he, k, os, hw⟩ => ⟨_, he, σ, ?_⟩
   have hi : Go.Lib.itoa n = Go.Lib.decDigits n.toNat ++ [] := by
    unfold Go.Lib.itoa; rw [if_neg (by omega)]; simp
   rw [hi]
   have := grow_inv (w' := w') hI (by rw [hw]; rfl) (by rw [hw]; rfl) (by rw [hw]; rfl) (by rw [hw]; show w.heap.size <= (w.heap ++ os).size; simp) (fun g hg => by rw [hw]; show (w.heap ++ os)[g]? = _; rw [Array.getElem?_append_left hg])
   exact ⟨.str, this.1, this.2⟩
  ·exact h.elim
 ·exact h.elim
theorem X72 : Builder.X72 Tryz.prog Tryz.lays165_ren where
 sizeBuilder := by kernel_rfl
 liesBuilder := by kernel_rfl
theorem L240 : Lays.n240 Tryz.prog Tryz.lays165_ren := { Tryz.lays165 with }
theorem ptr_of {w : World} {E : Nat -> Prop} {σ : Sg} {b o g : Nat} {v : Value} (hσ : σ[b]? = some (.fix g)) (hr : Rep w E σ (.ptr b o) v) : v = .pointer (some ⟨g, o, none⟩) := by
 cases hr with
 | ptr h' => rw [hσ] at h'; simp at h'; subst h'; rfl
 | ptrD h' => rw [hσ] at h'; simp at h'
theorem check_ok (l : List SV) (H : HW) (K : KV3) (h : checkH l H K) : CallL Tryz.prog 183 l H K := by
 unfold checkH at h
 split at h
 ·rename_i b
  rw [getH_eq] at h
  obtain ⟨blk, hb, h⟩ := nthK_sound h
  split at h
  ·rename_i T x
   obtain ⟨hT, h⟩ := bChk_sound h
   have hT := Nat.eq_of_beq_eq_true hT
   subst hT
   obtain ⟨H', hk, hlt, hv⟩ := setH_sound h
   refine CallL.kit (fn := Tryz.f183) (by kernel_rfl) (by rfl) rfl hk (fun i hi hn => ?_) (by rw [hv]; simp) fun w X σ vs hI hr => ?_
   ·rw [hv, List.getElem?_set_ne]
    intro hbi; subst hbi; simp at hn
   ·obtain ⟨v, rfl, r1⟩ := repl1 hr
    obtain ⟨g, cs, hσ, hg, hl, hc⟩ := fix_of hI hb
    have hv1 := ptr_of hσ r1
    subst hv1
    have hs2 : cs.size = 2 := by simp at hl; omega
    have c0 : cs[0]? = some (.pointer none) := by
     have := hc 0 .nilp cs[0] rfl (Array.getElem?_eq_getElem (by omega))
     rw [Array.getElem?_eq_getElem (by omega)]
     generalize cs[0] = u at this
     cases this.1; rfl
    refine (Any.Builder_copyCheck_fresh L240 X72 g w (by simp [World.cell?, hg, c0]) (by simp [World.shape?, hg, hs2]; rfl) (by simp [World.frozen?, hg])).mono fun e w' ⟨he, hw⟩ => ⟨_, he, σ, rep_tup0, ?_⟩
    rw [setCell_eq_setRow w g 0 cs 241 (0, 0) _ hg] at hw
    obtain ⟨f1, f2, f3, f4, f5⟩ := setRow_facts (w := w) (g := g) (cs := cs.setIfInBounds 0 (.pointer (some ⟨g, 0, none⟩)))
    rw [hw, hv]
    have hS := (write_step hσ rfl f1 f2 f3 f4 f5).any (m := σ.length)
    refine ⟨write_inv hI hσ rfl f1 f2 f3 f4 f5 ⟨_, setRow_heap w g cs _ 241 (0, 0) hg, by simpa using hl, fun i s u hs hu => ?_⟩, hS⟩
    match i with
    | 0 =>
     simp at hs; subst hs
     rw [Array.getElem?_setIfInBounds_self_of_lt (by omega)] at hu
     simp at hu; subst hu
     exact ⟨.ptr hσ, rfl⟩
    | i + 1 =>
     rw [Array.getElem?_setIfInBounds_ne (by omega)] at hu
     have := hc (i + 1) s u (by simpa using hs) hu
     exact ⟨this.1.step hS (Nat.le_refl _), this.2⟩
  ·rename_i b' y z
   obtain ⟨hbe, hk⟩ := bChk_sound h
   have hb' := Nat.eq_of_beq_eq_true hbe
   clear h hbe
   subst hb'
   refine CallL.kit (fn := Tryz.f183) (by kernel_rfl) (by rfl) rfl hk (Chg.refl _ _) (Nat.le_refl _) fun w X σ vs hI hr => ?_
   obtain ⟨v, rfl, r1⟩ := repl1 hr
   obtain ⟨g, cs, hσ, hg, hl, hc⟩ := fix_of hI hb
   have hv1 := ptr_of hσ r1
   subst hv1
   have c0 : cs[0]? = some (.pointer (some ⟨g, 0, none⟩)) := by
    have hs2 : 0 < cs.size := by rw [<- hl]; simp
    have := hc 0 _ cs[0] rfl (Array.getElem?_eq_getElem hs2)
    rw [Array.getElem?_eq_getElem hs2]
    congr 1
    exact ptr_of hσ this.1
   refine (Any.Builder_copyCheck_used L240 X72 g w (by simp [World.cell?, hg, c0])).mono fun e w' ⟨he, hw⟩ => ⟨_, he, σ, rep_tup0, ?_⟩
   rw [hw]
   exact ⟨hI, .refl _ _ _⟩
  ·exact h.elim
 ·exact h.elim
theorem setEnd {h : Hp} {x y : Blk} : (h ++ [x]).set h.length y = h ++ [y] := by
 induction h with
 | nil => rfl
 | cons a h ih => simp
theorem clone_run {b : Nat} {u : TypeId} {p : Bool} {es : List ME} {c : Nat} {H : HW} {K : KV3} (hb : H.view[b]? = some (mapOf' p es c)) (h : pushH H (mapOf' p es c) fun n H' => K (.ifc u (.mp n)) H' []) : CallL Tryz.prog 434 [.ifc u (.mp b)] H K := by
 obtain ⟨H', hk, hv⟩ := pushH_sound h
 refine CallL.ext hk (fun i hi _ => by rw [hv, List.getElem?_append_left hi]) (by rw [hv]; simp) fun w X σ vs hI hr => ?_
 obtain ⟨x, hvs, r1⟩ := repl1 hr
 obtain ⟨g, ms, hσ, hg, hM, hM0⟩ := maps_of hI hb
 have hx : x = .iface u (.map (some g)) := by
  cases r1 with
  | ifc r2 => cases r2 with
   | mp h' => rw [hσ] at h'; simp at h'; subst h'; rfl
   | mpD h' => rw [hσ] at h'; simp at h'
 rw [hx] at hvs r1
 have hrun : (callFunc 434 #[.iface u (.map (some g))]).run Tryz.prog w = .ok (.value (.iface u (.map (some w.heap.size)))) (w.alloc (.map ms c)) := by
  refine (run_callFunc_extern (e := Extern.MapsClone.clone) (fn := Tryz.f434) (by kernel_rfl) (by rfl) (by rfl) (by rfl) (by rfl) _ w).trans ?_
  have e : Extern.MapsClone.clone #[.iface u (.map (some g))] = (do
    let .map entries clock <- getObj g | stuck "maps.clone: a map expected"
    pure (.iface u (.map (some (<- newObj (.map entries clock))))) : Sem Value) := rfl
  rw [e]
  simp only [Sem.run_bind, run_getMap hg, Result.andThen_ok]
  rfl
 have hva : vs.toArray = #[.iface u (.map (some g))] := by rw [hvs]
 rw [<- hva] at hrun
 obtain ⟨hI2, hS2⟩ := hI.fresh
 have hf : (H.view ++ [Blk.fresh])[H.view.length]? = some .fresh := by simp
 have hS3 := alloc_step (w' := w.alloc (.map ms c)) hI2 hf (e := .obj w.heap.size) rfl rfl rfl rfl (o := .map ms c) rfl
 have hl : σ.length = H.view.length := hI.len
 have hS : Step σ.length w σ (w.alloc (.map ms c)) ((σ ++ [Ent.fresh]).set H.view.length (.obj w.heap.size)) := hS2.trans hS3.any
 have hI3 := alloc_inv (w' := w.alloc (.map ms c)) hI2 hf (e := .obj w.heap.size) (b := mapOf' p es c) rfl rfl rfl rfl (o := .map ms c) rfl (by
  cases p with
  | true => exact ⟨ms, heap_alloc_new w _, hM.1, fun i e m h1 h2 => ⟨(hM.2 i e m h1 h2).1.step hS (Nat.le_refl _), (hM.2 i e m h1 h2).2.1.step hS (Nat.le_refl _), (hM.2 i e m h1 h2).2.2⟩⟩
  | false => exact ⟨ms, heap_alloc_new w _, (hM0 rfl).1, fun i e m h1 h2 => ⟨((hM0 rfl).2 i e m h1 h2).1.step0 hS, ((hM0 rfl).2 i e m h1 h2).2.1.step0 hS, ((hM0 rfl).2 i e m h1 h2).2.2⟩⟩)
 refine ⟨_, _, (σ ++ [Ent.fresh]).set H.view.length (.obj w.heap.size), hrun, .ifc (.mp ?_), ?_, hS⟩
 ·rw [List.getElem?_set, if_pos rfl, if_pos (by simp [hl])]
 ·rw [hv]
  rw [<- setEnd]
  exact hI3
theorem clone_ok (l : List SV) (H : HW) (K : KV3) (h : cloneH l H K) : CallL Tryz.prog 434 l H K := by
 unfold cloneH at h
 split at h
 ·rename_i u b
  rw [getH_eq] at h
  obtain ⟨blk, hb, h⟩ := nthK_sound h
  split at h
  ·exact clone_run (p := false) hb h
  ·exact clone_run (p := true) hb h
  ·exact h.elim
 ·exact h.elim
end Go.Proofs.YtbppedokdfmnoaaGreatDoor

namespace Go.Sx
section
variable {P : Program}
def ConstSV (s : SV) : Prop := ∀ (w w' : World) (E E' : Nat -> Prop) (σ σ' : Sg) (v : Value), Rep w E σ s v -> Rep w' E' σ' s v
def constB : Nat -> SV -> Bool
 | n + 1, .agg cs => cs.all (constB n)
 | n + 1, .tup cs => cs.all (constB n)
 | n + 1, .ifc _ s => constB n s
 | _, .int _ _ => true
 | _, .tt => true
 | _, .ff => true
 | _, .str _ => true
 | _, .nilp => true
 | _, .nils => true
 | _, .nilm => true
 | _, .nili => true
 | _, _ => false
theorem constB_sound : ∀ (n : Nat) (s : SV), constB n s = true -> ConstSV s := by
 intro n
 induction n with
 | zero =>
  intro s h w w' E E' σ σ' v hr
  cases s <;> simp only [constB, Bool.false_eq_true] at h <;> (cases hr <;> constructor)
 | succ n ih =>
  intro s h w w' E E' σ σ' v hr
  cases s <;> simp only [constB, Bool.false_eq_true] at h
  case agg cs =>
   cases hr with
   | agg hl h1 hc => exact .agg hl h1 fun i s v hs hv => ih s (List.all_eq_true.1 h s (List.mem_of_getElem? hs)) w w' E E' σ σ' v (hc i s v hs hv)
  case tup cs =>
   cases hr with
   | tup hl hc => exact .tup hl fun i s v hs hv => ih s (List.all_eq_true.1 h s (List.mem_of_getElem? hs)) w w' E E' σ σ' v (hc i s v hs hv)
  case ifc T s =>
   cases hr with
   | ifc hc => exact .ifc (ih s h w w' E E' σ σ' _ hc)
  all_goals (cases hr <;> constructor)
theorem repl_const {l : List SV} (hl : ∀ s ∈ l, ConstSV s) {w w' : World} {E E' : Nat -> Prop} {σ σ' : Sg} {vs : List Value} (h : RepL w E σ l vs) : RepL w' E' σ' l vs :=
 ⟨h.1, fun i s v hs hv => hl s (List.mem_of_getElem? hs) w w' E E' σ σ' v (h.2 i s v hs hv)⟩
def numsB (cs : List SV) : Bool := cs.all fun s => match s with | .int _ _ => true | _ => false
theorem ints_eq {w w' : World} {E E' : Nat -> Prop} {σ σ' : Sg} {cs : List SV} (hb : numsB cs = true) {vs vs' : Array Value} (h1 : cs.length = vs.size) (h1' : cs.length = vs'.size)
  (h : ∀ (i : Nat) (s : SV) (v : Value), cs[i]? = some s -> vs[i]? = some v -> Rep w E σ s v /\ v.oneCell' = true)
  (h' : ∀ (i : Nat) (s : SV) (v : Value), cs[i]? = some s -> vs'[i]? = some v -> Rep w' E' σ' s v /\ v.oneCell' = true) : vs = vs' := by
 apply Array.ext (by omega)
 intro i hi hi'
 have hc : cs[i]? = some (cs[i]'(by omega)) := List.getElem?_eq_getElem _
 have a := (h i _ _ hc (Array.getElem?_eq_getElem hi)).1
 have b := (h' i _ _ hc (Array.getElem?_eq_getElem hi')).1
 have hk := List.all_eq_true.1 hb _ (List.getElem_mem (by omega : i < cs.length))
 generalize cs[i]'(by omega) = s at a b hk
 cases s <;> simp only [Bool.false_eq_true] at hk
 generalize vs[i] = x at a
 generalize vs'[i] = y at b
 cases a; cases b; rfl
theorem CallGd.small {f : FuncId} {l : List SV} {s : SV} {h' : Hp} {g : Nat} {T : TypeId} {cs : List SV} (hc : CallGd P f l [.glob g T cs] s h') (h0 : h'[0]? = some (.glob g T cs)) (hb : numsB cs = true) (hl : ∀ x ∈ l, ConstSV x) (hs : ConstSV s)
  {h : Hp} (hh : h[0]? = some (.glob g T cs)) : CallGd P f l h s h := by
 refine ⟨fun w X σ vs hI hr => ?_⟩
 have hlt : 0 < σ.length := by rw [hI.len]; exact (List.getElem?_eq_some_iff.1 hh).1
 have he : σ[0]? = some (σ[0]'hlt) := List.getElem?_eq_getElem hlt
 have hok := hI.ok 0 _ _ hh he
 have hfix : σ[0]'hlt = .fix g := by
  generalize σ[0]'hlt = e at hok
  cases e <;> simp only [BlkOK] at hok
  rw [hok.1]
 rw [hfix] at he hok
 have hX : ∀ k, Ex (fun k => Ex X σ k /\ k ≠ g) [.fix g] k ↔ Ex X σ k := fun k => by
  constructor
  ·rintro (h | ⟨i, e, h1, h2⟩)
   ·exact h.1
   ·cases i with
    | zero => simp at h1; subst h1; exact .inr ⟨0, _, he, h2⟩
    | succ i => simp at h1
  ·intro h
   by_cases hk : k = g
   ·subst hk; exact .inr ⟨0, .fix k, rfl, rfl⟩
   ·exact .inl ⟨h, hk⟩
 have hI0 : Inv w (fun k => Ex X σ k /\ k ≠ g) [.fix g] [.glob g T cs] := by
  refine ⟨rfl, fun i b e h1 h2 => ?_, fun i e k h1 h2 => ?_, fun i j e e' k h1 h2 _ _ => ?_, fun k hk ho => ?_, fun k hk => ?_⟩
  ·cases i with
   | zero =>
    simp at h1 h2; subst h1; subst h2
    obtain ⟨q0, vs, q1, q2, q3⟩ := hok
    exact ⟨q0, vs, q1, q2, fun i s v hs hv => ⟨(q3 i s v hs hv).1.le (fun k hk => (hX k).1 hk) [], (q3 i s v hs hv).2⟩⟩
   | succ i => simp at h1
  ·cases i with
   | zero => simp at h1; subst h1; exact hI.lt 0 _ k he h2
   | succ i => simp at h1
  ·cases i with
   | zero => cases j with
    | zero => rfl
    | succ j => simp at h2
   | succ i => simp at h1
  ·obtain ⟨i, e, h1, h2⟩ := ho
   cases i with
   | zero => simp at h1; subst h1; simp [Ent.blk] at h2; exact hk.2 h2.symm
   | succ i => simp at h1
  ·rcases hk.1 with hx | ⟨i, e, h1, h2⟩
   ·exact hI.xlt k hx
   ·exact hI.lt i e k h1 h2
 refine (hc.ok w _ [.fix g] vs hI0 (repl_const hl hr)).mono fun v w' ⟨s1, h1, σ', ⟨e1, e2⟩, a1, a2, a3⟩ => ?_
 subst e1; subst e2
 have hlt' : 0 < σ'.length := by rw [a2.len]; exact (List.getElem?_eq_some_iff.1 h0).1
 have he' : σ'[0]? = some (σ'[0]'hlt') := List.getElem?_eq_getElem hlt'
 have hok' := a2.ok 0 _ _ h0 he'
 have hsame : ∀ k, k < w.heap.size -> w'.heap[k]? = w.heap[k]? := fun k hk => by
  by_cases hkg : k = g
  ·subst hkg
   generalize σ'[0]'hlt' = e at hok'
   cases e <;> simp only [BlkOK] at hok'
   obtain ⟨rfl, vs', b1, b2, b3⟩ := hok'
   obtain ⟨_, vs, c1, c2, c3⟩ := hok
   rw [b1, c1, ints_eq hb c2 b2 c3 b3]
  ·refine a3.frame k hk fun ⟨i, e, h1, h2⟩ => ?_
   cases i with
   | zero => simp at h1; subst h1; simp [Ent.blk] at h2; exact hkg h2.symm
   | succ i => simp at h1
 have := grow_inv hI a3.os a3.tape a3.output a3.size hsame
 exact ⟨s1, h, σ, ⟨rfl, rfl⟩, hs _ _ _ _ _ _ _ a1, this.1, this.2⟩
noncomputable def beqL : List UInt8 -> List UInt8 -> Bool :=
 List.rec (motive := fun _ => List UInt8 -> Bool) (fun l => match l with | [] => true | _ => false)
  (fun x _ ih l => match l with | [] => false | y :: t => Bool.rec (motive := fun _ => Bool) false (ih t) (Nat.beq x.toNat y.toNat))
theorem beqL_eq : ∀ {a b : List UInt8}, beqL a b = true -> a = b := by
 intro a
 induction a with
 | nil => intro b h; cases b with | nil => rfl | cons y t => exact absurd h (by simp [beqL])
 | cons x a ih =>
  intro b h
  cases b with
  | nil => exact absurd h (by simp [beqL])
  | cons y t =>
   have h : Bool.rec (motive := fun _ => Bool) false (beqL a t) (Nat.beq x.toNat y.toNat) = true := h
   cases hn : Nat.beq x.toNat y.toNat with
   | true =>
    rw [hn] at h
    rw [ih h, UInt8.toNat_inj.1 (Nat.eq_of_beq_eq_true hn)]
   | false => rw [hn] at h; simp at h
noncomputable def eqS0 (a b : SV) : Bool := match a with
 | .int k n => (match b with | .int k' n' => Bool.rec (motive := fun _ => Bool) false (eqI n n') (kindB k k') | _ => false)
 | .str s => (match b with | .str s' => beqL s s' | _ => false)
 | .tt => (match b with | .tt => true | _ => false)
 | .ff => (match b with | .ff => true | _ => false)
 | .nilp => (match b with | .nilp => true | _ => false)
 | .nils => (match b with | .nils => true | _ => false)
 | .nilm => (match b with | .nilm => true | _ => false)
 | .nili => (match b with | .nili => true | _ => false)
 | _ => false
theorem eqS0_eq {a b : SV} (h : eqS0 a b = true) : a = b := by
 cases a <;> simp only [eqS0, Bool.false_eq_true] at h <;> cases b <;> simp only [Bool.false_eq_true] at h <;> try rfl
 case int.int k n k' n' =>
  cases hk : kindB k k' with
  | true =>
   rw [hk] at h
   rw [eqI_eq] at h
   rw [kindB_eq hk, of_decide_eq_true h]
  | false => rw [hk] at h; simp at h
 case str.str s s' => rw [beqL_eq h]
noncomputable def eqLs (f : SV -> SV -> Bool) : List SV -> List SV -> Bool :=
 List.rec (motive := fun _ => List SV -> Bool) (fun l => match l with | [] => true | _ => false)
  (fun x _ ih l => match l with | [] => false | y :: t => Bool.rec (motive := fun _ => Bool) false (ih t) (f x y))
theorem eqLs_eq {f : SV -> SV -> Bool} (hf : ∀ {a b : SV}, f a b = true -> a = b) : ∀ {a b : List SV}, eqLs f a b = true -> a = b := by
 intro a
 induction a with
 | nil => intro b h; cases b with | nil => rfl | cons y t => exact absurd h (by simp [eqLs])
 | cons x a ih =>
  intro b h
  cases b with
  | nil => exact absurd h (by simp [eqLs])
  | cons y t =>
   have h : Bool.rec (motive := fun _ => Bool) false (eqLs f a t) (f x y) = true := h
   cases hn : f x y with
   | true => rw [hn] at h; rw [ih h, hf hn]
   | false => rw [hn] at h; simp at h
noncomputable def eqS (n : Nat) : SV -> SV -> Bool :=
 Nat.rec (motive := fun _ => SV -> SV -> Bool) eqS0 (fun _ ih a b => match a with
  | .agg l => (match b with | .agg l' => eqLs ih l l' | _ => false)
  | .tup l => (match b with | .tup l' => eqLs ih l l' | _ => false)
  | a => eqS0 a b) n
theorem eqS_eq : ∀ (n : Nat) {a b : SV}, eqS n a b = true -> a = b := by
 intro n
 induction n with
 | zero => intro a b h; exact eqS0_eq h
 | succ n ih =>
  intro a b h
  cases a
  case agg l =>
   cases b
   case agg l' => rw [eqLs_eq (fun h => ih h) (show eqLs (eqS n) l l' = true from h)]
   all_goals exact absurd h Bool.false_ne_true
  case tup l =>
   cases b
   case tup l' => rw [eqLs_eq (fun h => ih h) (show eqLs (eqS n) l l' = true from h)]
   all_goals exact absurd h Bool.false_ne_true
  all_goals exact eqS0_eq h
noncomputable def samesB : List SV -> List SV -> Bool := eqLs (eqS 2)
theorem samesB_eq {a b : List SV} (h : samesB a b = true) : a = b := eqLs_eq (fun h => eqS_eq 2 h) h
noncomputable def constH (args : List SV) (s : SV) (T : TypeId) (cs : List SV) : HSp := fun l H K => bChk (samesB l args) (getH H 0 fun b => match b with
 | .glob 0 T' cs' => bChk (Nat.beq T' T) (bChk (samesB cs' cs) (K s H []))
 | _ => False)
theorem constH_ok {f : FuncId} {args : List SV} {s : SV} {h' : Hp} {T : TypeId} {cs : List SV} (hc : CallGd P f args [.glob 0 T cs] s h') (h0 : h'[0]? = some (.glob 0 T cs)) (hb : numsB cs = true) (hl : (args.all (constB 3)) = true) (hs : constB 3 s = true)
  (l : List SV) (H : HW) (K : KV3) (h : constH args s T cs l H K) : CallL P f l H K := by
 obtain ⟨h1, h2⟩ := bChk_sound h
 have := samesB_eq h1
 subst this
 rw [getH_eq] at h2
 obtain ⟨blk, hblk, h2⟩ := nthK_sound h2
 split at h2
 ·obtain ⟨h3, h6⟩ := bChk_sound h2
  obtain ⟨h4, h5⟩ := bChk_sound h6
  have h3 := Nat.eq_of_beq_eq_true h3
  have h4 := samesB_eq h4
  clear h2 h6
  subst h3; subst h4
  exact ⟨s, H, [], h5, Chg.refl _ _, Nat.le_refl _, hc.small h0 hb (fun x hx => constB_sound 3 x (List.all_eq_true.1 hl x hx)) (constB_sound 3 s hs) hblk⟩
 ·exact h2.elim
noncomputable def isK (s0 : SV) : KV3 := fun s _ wr => bChk (eqS 3 s s0) (bChk (Bool.rec (motive := fun _ => Bool) true false (memB 0 wr)) True)
theorem isK_sound {s0 s : SV} {H : HW} {wr : List Nat} (h : isK s0 s H wr) : s = s0 /\ 0 ∉ wr := by
 obtain ⟨h1, h2⟩ := bChk_sound h
 obtain ⟨h3, _⟩ := bChk_sound h2
 refine ⟨eqS_eq 3 h1, fun hm => ?_⟩
 have : memB 0 wr = true := by
  clear h h1 h2 h3
  induction wr with
  | nil => simp at hm
  | cons x l ih =>
   show Bool.rec (motive := fun _ => Bool) (memB 0 l) true (Nat.beq x 0) = true
   rcases List.mem_cons.1 hm with rfl | hm
   ·rfl
   ·cases Nat.beq x 0 with
    | true => rfl
    | false => exact ih hm
 rw [this] at h3
 exact absurd h3 (by simp)
variable {V : Env}
theorem constH_run (hV : EnvOK P V) (fuel : Nat) {f : FuncId} {args : List SV} {s : SV} {T : TypeId} {cs : List SV} {H : HW} (hH : H.view = [.glob 0 T cs]) (hk : callsV P V (runV P V fuel) f args H (isK s) = True) (hb : numsB cs = true) (hl : (args.all (constB 3)) = true) (hs : constB 3 s = true) :
  ∀ (l : List SV) (H : HW) (K : KV3), constH args s T cs l H K -> CallL P f l H K := by
 obtain ⟨s1, H', wr, h1, hc0, _, hc⟩ := callV_sound hV fuel (of_eq_true hk)
 obtain ⟨rfl, hn⟩ := isK_sound h1
 have h0 := hc0 0 (by rw [hH]; simp) hn
 rw [hH] at hc h0
 exact fun l H K h => constH_ok hc (by rw [h0]; rfl) hb hl hs l H K h
end
end Go.Sx
