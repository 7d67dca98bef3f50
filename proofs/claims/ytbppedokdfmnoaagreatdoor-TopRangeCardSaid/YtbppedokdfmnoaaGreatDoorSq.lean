/- Part of the executor and its soundness, or of what it is told of this seat's program. No statement of the seat is proved here. -/
import Derived.Shelf.SlIterI.Collect
import Derived.Shelf.SlGeneric
import Derived.Test.YtbppedokdfmnoaaGreatDoorSp
set_option linter.unusedSimpArgs false
set_option linter.unusedVariables false
namespace Go.Proofs
open Go.Shelf
def Tryz.apL_ren : Go.Shelf.Ren := ⟨fun | 11 => 295 | n => n, fun | 24 => 22 | 26 => 3 | 28 => 340 | 0 => 0 | 33 => 218 | 4 => 4 | n => n, fun | n => n⟩
theorem Tryz.apL : Go.Proofs.SlLaysZI.n11 Tryz.prog Tryz.apL_ren where
  mixed := by kernel_rfl
  f11 := ⟨ "slices.AppendSeq[[]int,int]", by decide, Tryz.func295.trans (congrArg some (by kernel_rfl))⟩
  t0 := Tryz.underlying0
  a0 := Tryz.isAgg0
  z0 := Tryz.sizeOf0
  v0 := Tryz.zeroValue0
  t24 := Tryz.underlying22
  a24 := Tryz.isAgg22
  z24 := Tryz.sizeOf22
  v24 := Tryz.zeroValue22
  t26 := Tryz.underlying3
  a26 := Tryz.isAgg3
  z26 := Tryz.sizeOf3
  v26 := Tryz.zeroValue3
  t28 := Tryz.underlying340
  a28 := Tryz.isAgg340
  z28 := Tryz.sizeOf340
  v28 := Tryz.zeroValue340
  i26 := by kernel_rfl
def Tryz.keysA_ren : Go.Shelf.Ren := ⟨fun | 10 => 235 | n => n, fun | 33 => 218 | 23 => 252 | 0 => 0 | 4 => 4 | 26 => 3 | 3 => 325 | n => n, fun | n => n⟩
theorem Tryz.keysA : Go.Proofs.SlLaysZI.n10 Tryz.prog Tryz.keysA_ren where
  mixed := by kernel_rfl
  f10 := ⟨ "maps.Keys[map[int]airshare/api.Tag,int,airshare/api.Tag]$1", by decide, Tryz.func235.trans (congrArg some (by kernel_rfl))⟩
  t0 := Tryz.underlying0
  a0 := Tryz.isAgg0
  z0 := Tryz.sizeOf0
  v0 := Tryz.zeroValue0
  t4 := Tryz.underlying4
  a4 := Tryz.isAgg4
  z4 := Tryz.sizeOf4
  v4 := Tryz.zeroValue4
  t23 := Tryz.underlying252
  a23 := Tryz.isAgg252
  z23 := Tryz.sizeOf252
  v23 := Tryz.zeroValue252
  t26 := Tryz.underlying3
  a26 := Tryz.isAgg3
  z26 := Tryz.sizeOf3
  v26 := Tryz.zeroValue3
  t33 := Tryz.underlying218
  a33 := Tryz.isAgg218
  z33 := Tryz.sizeOf218
  v33 := Tryz.zeroValue218
def Tryz.keysB_ren : Go.Shelf.Ren := ⟨fun | 10 => 248 | n => n, fun | 33 => 218 | 23 => 349 | 0 => 0 | 4 => 4 | 26 => 3 | 3 => 351 | n => n, fun | n => n⟩
theorem Tryz.keysB : Go.Proofs.SlLaysZI.n10 Tryz.prog Tryz.keysB_ren where
  mixed := by kernel_rfl
  f10 := ⟨ "maps.Keys[map[int]*airshare/api.Stats,int,*airshare/api.Stats]$1", by decide, Tryz.func248.trans (congrArg some (by kernel_rfl))⟩
  t0 := Tryz.underlying0
  a0 := Tryz.isAgg0
  z0 := Tryz.sizeOf0
  v0 := Tryz.zeroValue0
  t4 := Tryz.underlying4
  a4 := Tryz.isAgg4
  z4 := Tryz.sizeOf4
  v4 := Tryz.zeroValue4
  t23 := Tryz.underlying349
  a23 := Tryz.isAgg349
  z23 := Tryz.sizeOf349
  v23 := Tryz.zeroValue349
  t26 := Tryz.underlying3
  a26 := Tryz.isAgg3
  z26 := Tryz.sizeOf3
  v26 := Tryz.zeroValue3
  t33 := Tryz.underlying218
  a33 := Tryz.isAgg218
  z33 := Tryz.sizeOf218
  v33 := Tryz.zeroValue218
def Tryz.keysC_ren : Go.Shelf.Ren := ⟨fun | 10 => 294 | n => n, fun | 33 => 218 | 23 => 255 | 0 => 0 | 4 => 4 | 26 => 3 | 3 => 328 | n => n, fun | n => n⟩
theorem Tryz.keysC : Go.Proofs.SlLaysZI.n10 Tryz.prog Tryz.keysC_ren where
  mixed := by kernel_rfl
  f10 := ⟨ "maps.Keys[map[int]airshare/lag.account,int,airshare/lag.account]$1", by decide, Tryz.func294.trans (congrArg some (by kernel_rfl))⟩
  t0 := Tryz.underlying0
  a0 := Tryz.isAgg0
  z0 := Tryz.sizeOf0
  v0 := Tryz.zeroValue0
  t4 := Tryz.underlying4
  a4 := Tryz.isAgg4
  z4 := Tryz.sizeOf4
  v4 := Tryz.zeroValue4
  t23 := Tryz.underlying255
  a23 := Tryz.isAgg255
  z23 := Tryz.sizeOf255
  v23 := Tryz.zeroValue255
  t26 := Tryz.underlying3
  a26 := Tryz.isAgg3
  z26 := Tryz.sizeOf3
  v26 := Tryz.zeroValue3
  t33 := Tryz.underlying218
  a33 := Tryz.isAgg218
  z33 := Tryz.sizeOf218
  v33 := Tryz.zeroValue218
def Tryz.keysD_ren : Go.Shelf.Ren := ⟨fun | 10 => 437 | n => n, fun | 33 => 218 | 23 => 141 | 0 => 0 | 4 => 4 | 26 => 3 | 3 => 3 | n => n, fun | n => n⟩
theorem Tryz.keysD : Go.Proofs.SlLaysZI.n10 Tryz.prog Tryz.keysD_ren where
  mixed := by kernel_rfl
  f10 := ⟨ "maps.Keys[map[int]int,int,int]$1", by decide, Tryz.func437.trans (congrArg some (by kernel_rfl))⟩
  t0 := Tryz.underlying0
  a0 := Tryz.isAgg0
  z0 := Tryz.sizeOf0
  v0 := Tryz.zeroValue0
  t4 := Tryz.underlying4
  a4 := Tryz.isAgg4
  z4 := Tryz.sizeOf4
  v4 := Tryz.zeroValue4
  t23 := Tryz.underlying141
  a23 := Tryz.isAgg141
  z23 := Tryz.sizeOf141
  v23 := Tryz.zeroValue141
  t26 := Tryz.underlying3
  a26 := Tryz.isAgg3
  z26 := Tryz.sizeOf3
  v26 := Tryz.zeroValue3
  t33 := Tryz.underlying218
  a33 := Tryz.isAgg218
  z33 := Tryz.sizeOf218
  v33 := Tryz.zeroValue218
end Go.Proofs
namespace Go.Proofs.YtbppedokdfmnoaaGreatDoor
open Go.Sx Go.MapKept Go.RowKit
def anyR : Value -> Option (DataW Unit × List MemPlace) := fun _ => some (.lit (.bool true), [])
theorem own_nil {w : World} {g c : Nat} (hg : w.heap[g]? = some (.map #[] c)) : ∃ D, w.ownsMap Tryz.prog 3 anyR g 0 D /\ intKeys D = [] /\ Maps.size D <= 1 :=
 ⟨_, ⟨#[], c, hg, ⟨by simp, ⟨by simp, by simp, by simp⟩, by simp⟩, by simp, rfl⟩, rfl, by simp [Maps.size]⟩
theorem own_one {w : World} {g c : Nat} {k : Int} {m : MapEntry} (hg : w.heap[g]? = some (.map #[m] c)) (hk : m.key = .int .i64 k) (h1 : -9223372036854775808 <= k) (h2 : k <= 9223372036854775807) (hb : m.born < c) :
  ∃ D, w.ownsMap Tryz.prog 3 anyR g 1 D /\ intKeys D = [k] /\ Maps.size D <= 1 := by
 have hwf : (Lit.int .i64 k).wf = true := by
  simp only [Lit.wf, decide_eq_true_eq, Bool.and_eq_true]
  exact ⟨h1, h2⟩
 have hkey : Go.keyOf Tryz.prog 3 m.key = some (.int .i64 k) := by rw [hk]; exact Maps.keyOf_int_mk Tryz.underlying3 hwf
 refine ⟨_, ⟨#[m], c, hg, ⟨by simp [maxLen], ⟨by simpa using hb, by simp, by simp⟩, fun x hx => ?_⟩, by simp, rfl⟩, ?_⟩
 ·simp at hx; subst hx
  exact ⟨_, by unfold WideElems.rd; rw [hkey]; rfl⟩
 ·have : WideElems.rg Tryz.prog 3 anyR m = (.int .i64 k, .lit (.bool true)) := by unfold WideElems.rg WideElems.rd; rw [hkey]; rfl
  simp [this]
  exact ⟨rfl, Nat.le_refl 1⟩
theorem seq_calls {f : FuncId} {ρk : Go.Shelf.Ren} (LK : SlLaysZI.n10 Tryz.prog ρk) (hf : ρk.f 10 = f) (ht : ρk.t 26 = 3) {w : World} {g0 g n : Nat} {D : DataW Unit} (hB : g0 < w.heap.size)
  (hm : w.cell? ⟨g0, 0, none⟩ = some (.map (some g))) (hown : w.ownsMap Tryz.prog 3 anyR g n D) (hn : Maps.size D <= 1) :
  Calls Tryz.prog 295 #[.slice none 0 0, .func (.func f) #[] #[.pointer (some ⟨g0, 0, none⟩)]] w fun e w' => ∃ (v : Value) (ss : List Int), e = .returned v /\ ss.Perm (intKeys D) /\
   w'.ownsRow w.heap.size 3 1 v ss.length (ss.map encZ) /\ (v = .slice none 0 0 ↔ ss = []) /\ Below w.heap.size w w' := by
 have hg := AnyZI.keys_gives LK Fence.wide 2 trivial rfl (by omega) g0 g n D w hB hm (by rw [ht]; exact hown)
 have := AnyZI.appendSeq_in Tryz.apL Fence.wide 3 trivial rfl (by omega) (ρk.f 10) #[.pointer (some ⟨g0, 0, none⟩)] trivial (LK.f10.enters rfl) _ (Maps.size D) (by unfold maxLen; omega) (by omega) w hg
 have := callsIn_wide.1 this
 rw [hf] at this
 exact this
end Go.Proofs.YtbppedokdfmnoaaGreatDoor

namespace Go.Proofs.YtbppedokdfmnoaaGreatDoor
open Go.Sx Go.RowKit
theorem new_inv {w w' : World} {X : Nat -> Prop} {σ : Sg} {h : Hp} (hI : Inv w X σ h) (hB : Below w.heap.size w w') {e : Ent} {g : Nat} (he : e.blk = some g) (hge : w.heap.size <= g) (hlt : g < w'.heap.size) {blk : Blk}
  (hb : Step σ.length w σ w' (σ ++ [e]) -> BlkOK w' (Ex X (σ ++ [e])) (σ ++ [e]) blk e) : Inv w' X (σ ++ [e]) (h ++ [blk]) /\ Step σ.length w σ w' (σ ++ [e]) := by
 have at' : ∀ (i : Nat) (e' : Ent), (σ ++ [e])[i]? = some e' -> σ[i]? = some e' ∨ (i = σ.length /\ e' = e) := fun i e' h1 => by
  rw [List.getElem?_append] at h1
  split at h1
  ·exact .inl h1
  ·rename_i hn
   have : i - σ.length = 0 := by have := (List.getElem?_eq_some_iff.1 h1).1; simp at this; omega
   rw [this] at h1; simp at h1
   exact .inr ⟨by omega, h1.symm⟩
 have hS : Step σ.length w σ w' (σ ++ [e]) := ⟨hB.os, hB.tape, hB.output, hB.size, fun k hk _ => hB.block k hk, fun k ⟨i, e', h1, h2⟩ hk => by
  rcases at' i e' h1 with h | ⟨_, rfl⟩
  ·exact ⟨i, e', h, h2⟩
  ·rw [he] at h2; simp at h2; omega, fun i e' hi h1 _ => .inl (by rw [List.getElem?_append_left hi]; exact h1)⟩
 refine ⟨⟨by simp [hI.len], fun i b' e' h1 h2 => ?_, fun i e' k h1 h2 => ?_, fun i j e1 e2 k h1 h2 g1 g2 => ?_, fun k hx ho => ?_, fun k hx => Nat.lt_of_lt_of_le (hI.xlt k hx) hB.size⟩, hS⟩
 ·rcases at' i e' h2 with a2 | ⟨hi, rfl⟩
  ·have hil : i < h.length := by rw [<- hI.len]; exact (List.getElem?_eq_some_iff.1 a2).1
   rw [List.getElem?_append_left hil] at h1
   exact (hI.ok i b' e' h1 a2).step hS (Nat.le_refl _) fun k hk => hB.block k (hI.lt i e' k a2 hk)
  ·rw [hi, hI.len] at h1
   simp at h1
   subst h1
   exact hb hS
 ·rcases at' i e' h1 with h | ⟨_, rfl⟩
  ·exact Nat.lt_of_lt_of_le (hI.lt i e' k h h2) hB.size
  ·rw [he] at h2; simp at h2; omega
 ·rcases at' i e1 h1 with a1 | ⟨rfl, rfl⟩ <;> rcases at' j e2 h2 with a2 | ⟨rfl, rfl⟩
  ·exact hI.inj i j e1 e2 k a1 a2 g1 g2
  ·have := hI.lt i e1 k a1 g1; rw [he] at g2; simp at g2; omega
  ·have := hI.lt j e2 k a2 g2; rw [he] at g1; simp at g1; omega
  ·rfl
 ·obtain ⟨i, e', h1, h2⟩ := ho
  rcases at' i e' h1 with h | ⟨_, rfl⟩
  ·exact hI.dis k hx ⟨i, e', h, h2⟩
  ·rw [he] at h2; simp at h2; have := hI.xlt k hx; omega
theorem seq_run {f : FuncId} {ρk : Go.Shelf.Ren} (LK : SlLaysZI.n10 Tryz.prog ρk) (hf : ρk.f 10 = f) (ht : ρk.t 26 = 3) {b0 b c : Nat} {T : TypeId} {p : Bool} {es : List ME} {H : HW} {K : KV3}
  (h0 : H.view[b0]? = some (.fix T [.mp b])) (hb : H.view[b]? = some (mapOf' p es c)) (h : keyOf es c H K) : CallL Tryz.prog 295 [.nils, .fn f [.ptr b0 0]] H K := by
 have base : ∀ (w : World) (X : Nat -> Prop) (σ : Sg) (vs : List Value), Inv w X σ H.view -> RepL w (Ex X σ) σ [.nils, .fn f [.ptr b0 0]] vs ->
   ∃ g0 g ms, vs = [.slice none 0 0, .func (.func f) #[] #[.pointer (some ⟨g0, 0, none⟩)]] /\ g0 < w.heap.size /\ w.cell? ⟨g0, 0, none⟩ = some (.map (some g)) /\ w.heap[g]? = some (.map ms c) /\ MOK w (Ex X σ) σ es ms := fun w X σ vs hI hr => by
  obtain ⟨x, y, hvs, r1, r2⟩ := repl2 hr
  obtain ⟨g0, cs, hσ, hg, hl, hc⟩ := fix_of hI h0
  obtain ⟨g, ms, hσ2, hg2, hM, _⟩ := maps_of hI hb
  refine ⟨g0, g, ms, ?_, (Array.getElem?_eq_some_iff.1 hg).1, ?_, hg2, hM⟩
  ·cases r1
   cases r2 with
   | @fn _ _ _ vs2 hl2 hc2 =>
    have : vs2 = #[.pointer (some ⟨g0, 0, none⟩)] := by
     apply Array.ext_getElem?
     intro i
     match i with
     | 0 =>
      have h1 : 0 < vs2.size := by rw [<- hl2]; simp
      rw [Array.getElem?_eq_getElem h1]
      have := ptr_of hσ (hc2 0 _ _ rfl (Array.getElem?_eq_getElem h1))
      rw [this]; rfl
     | i + 1 => rw [Array.getElem?_eq_none (by rw [<- hl2]; simp)]; rfl
    rw [hvs, this]
  ·have h1 : 0 < cs.size := by rw [<- hl]; simp
   have := (hc 0 _ _ rfl (Array.getElem?_eq_getElem h1)).1
   simp only [World.cell?, hg]
   show cs[0]? = _
   rw [Array.getElem?_eq_getElem h1]
   generalize cs[0] = u at this
   cases this with
   | mp h' => rw [hσ2] at h'; simp at h'; subst h'; rfl
   | mpD h' => rw [hσ2] at h'; simp at h'
 have hself : ∀ {w w' : World} {X : Nat -> Prop} {σ : Sg}, Inv w X σ H.view -> Below w.heap.size w w' -> Inv w' X σ H.view /\ Step σ.length w σ w' σ := fun hI hB => grow_inv hI hB.os hB.tape hB.output hB.size fun g hg => hB.block g hg
 unfold keyOf at h
 split at h
 ·refine CallL.kit (fn := Tryz.f295) (by kernel_rfl) (by rfl) rfl h (Chg.refl _ _) (Nat.le_refl _) fun w X σ vs hI hr => ?_
  obtain ⟨g0, g, ms, hvs, h1, h2, h3, hM⟩ := base w X σ vs hI hr
  have hms : ms = #[] := Array.eq_empty_of_size_eq_zero (by have := hM.1; simpa using this.symm)
  subst hms
  obtain ⟨D, ho, hk, hz⟩ := own_nil h3
  rw [hvs]
  refine (seq_calls LK hf ht h1 h2 ho hz).mono fun e w' ⟨v, ss, he, hp, _, hnil, hB⟩ => ⟨v, he, σ, ?_⟩
  rw [hk] at hp
  have hv := hnil.2 hp.eq_nil
  have := hself hI hB
  rw [hv]
  exact ⟨.nils, this.1, this.2⟩
 ·rename_i k x st
  obtain ⟨c1, h⟩ := bChk_sound h
  obtain ⟨c2, h⟩ := bChk_sound h
  obtain ⟨c3, h⟩ := bChk_sound h
  rw [Sx.leI_eq] at c1 c2
  have c1 := of_decide_eq_true c1
  have c2 := of_decide_eq_true c2
  have c3 := Nat.le_of_ble_eq_true c3
  obtain ⟨H1, hk1, hv1⟩ := pushH_sound h
  refine CallL.kit (fn := Tryz.f295) (by kernel_rfl) (by rfl) rfl hk1 (fun i hi _ => by rw [hv1, List.getElem?_append_left hi]) (by rw [hv1]; simp) fun w X σ vs hI hr => ?_
  obtain ⟨g0, g, ms, hvs, h1, h2, h3, hM⟩ := base w X σ vs hI hr
  have hsz : ms.size = 1 := by have := hM.1; simpa using this.symm
  obtain ⟨m, rfl⟩ : ∃ m, ms = #[m] := ⟨ms[0], by apply Array.ext_getElem?; intro i; match i with | 0 => simp [hsz] | i + 1 => rw [Array.getElem?_eq_none (by omega)]; rfl⟩
  obtain ⟨m1, _, m3⟩ := hM.2 0 _ m rfl rfl
  have hmk : m.key = .int .i64 k := by generalize m.key = u at m1; cases m1; rfl
  obtain ⟨D, ho, hk, hz⟩ := own_one h3 hmk c1 c2 (by rw [m3]; exact c3)
  rw [hvs]
  refine (seq_calls LK hf ht h1 h2 ho hz).mono fun e w' ⟨v, ss, he, hp, hrow, hnil, hB⟩ => ⟨v, he, ?_⟩
  rw [hk] at hp
  have hss := List.perm_singleton.1 hp
  subst hss
  obtain ⟨_, hrow⟩ := hrow
  rcases hrow with ⟨hv0, _⟩ | ⟨g', cap, cur, hv0, hge, hcur, hcap, hmax, hsize, htake⟩
  ·simp at hnil; exact absurd hv0 hnil
  ·subst hv0
   have := new_inv hI hB (e := .row g' 1 1 cap) rfl hge (Array.getElem?_eq_some_iff.1 hcur).1 (blk := .row 3 1 [[.int .i64 k]]) fun hS => by
    refine ⟨rfl, rfl, hcap, hmax, cur, RowAt.of hcur, by omega, fun i e he => ?_⟩
    match i with
    | 0 =>
     simp at he; subst he
     refine ⟨rfl, fun j s hs => ?_⟩
     match j with
     | 0 =>
      simp at hs; subst hs
      have h5 : cur.toList[0]? = some (.int .i64 k) := by
       have : (cur.toList.take (1 * 1))[0]? = some (encZ k) := by
        have := htake
        simp only [List.length_cons, List.length_nil, List.map_cons, List.map_nil] at this
        rw [this]; rfl
       rw [List.getElem?_take] at this
       simpa [encZ] using this
      rw [Array.getElem?_toList] at h5
      exact ⟨_, by simpa using h5, .int, rfl⟩
     | j + 1 => simp at hs
    | i + 1 => simp at he
   rw [hv1]
   refine ⟨_, ?_, this.1, this.2⟩
   refine .sl (sz := 1) (n := 1) (cap := cap) ?_
   rw [<- hI.len]
   simp
 ·exact h.elim
theorem seq_ok (l : List SV) (H : HW) (K : KV3) (h : seqH l H K) : CallL Tryz.prog 295 l H K := by
 unfold seqH at h
 split at h
 ·rename_i f b0
  rcases bFork_sound h with ⟨hm, h⟩ | ⟨_, h⟩
  ·rw [getH_eq] at h
   obtain ⟨blk, hb, h⟩ := nthK_sound h
   split at h
   ·rename_i T b
    obtain ⟨m, hbm, h⟩ := nthK_sound h
    have hmem := memB_spec _ hm
    simp only [List.mem_cons, List.not_mem_nil, or_false] at hmem
    have fin : ∀ {p : Bool} {es : List ME} {c : Nat}, H.view[b]? = some (mapOf' p es c) -> keyOf es c H K -> CallL Tryz.prog 295 [.nils, .fn f [.ptr b0 0]] H K := fun hbm hk => by
     rcases hmem with rfl | rfl | rfl | rfl
     ·exact seq_run Tryz.keysA (by rfl) (by rfl) hb hbm hk
     ·exact seq_run Tryz.keysB (by rfl) (by rfl) hb hbm hk
     ·exact seq_run Tryz.keysC (by rfl) (by rfl) hb hbm hk
     ·exact seq_run Tryz.keysD (by rfl) (by rfl) hb hbm hk
    split at h
    ·exact fin (p := false) hbm h
    ·exact fin (p := true) hbm h
    ·exact h.elim
   ·exact h.elim
  ·exact h.elim
 ·exact h.elim
end Go.Proofs.YtbppedokdfmnoaaGreatDoor
