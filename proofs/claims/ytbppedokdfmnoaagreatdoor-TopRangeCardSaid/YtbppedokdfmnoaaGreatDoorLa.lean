/- Part of the executor and its soundness, or of what it is told of this seat's program. No statement of the seat is proved here. -/
import Derived.Test.YtbppedokdfmnoaaGreatDoorRh1
import Derived.Test.YtbppedokdfmnoaaGreatDoorRh2
import Derived.Test.YtbppedokdfmnoaaGreatDoorAuT
import Derived.Below
set_option linter.unusedSimpArgs false
set_option linter.unusedVariables false
namespace Go.Sx
section
variable {P : Program} {V : Env}
theorem CallG.of_bok {f : FuncId} {fn : Func} {c : Code} (hf : P.funcs[f]? = some fn) (hn : (fn.name == "runtime.NumGoroutine") = false) (hb : fn.body = some c) {n : Nat} (hnt : fn.ntmps = n) {t : Nat} (hres : fn.results.toList = [.tmp t])
  {args : List SV} {F0 : FW} {s : SV} {h0 : Hp} {Q : Hp -> Prop} (hst : startW args n fun F => F = F0) (hB : BOK P h0 c (viewF n F0) h0 fun x F h => x = .ret /\ F[t]? = some s /\ Q h) : CallG P f args h0 fun s1 h => s1 = s /\ Q h where
 ok := fun w X σ vs hI hr => by
  subst hnt
  have hlen : σ.length = h0.length := hI.len
  refine (done_of_bok (Q := Q) (s := s) hf hn hb hres (start_fr hst) (hB.mono fun x F h e => ?_) hI hr).mono fun v w' ⟨h', σ', e, a1, a2, a3⟩ => ?_
  ·exact ⟨.inl e.1, e.2.1, e.2.2⟩
  ·exact ⟨_, h', σ', ⟨rfl, e⟩, a1, a2, by rw [hlen]; exact a3⟩
theorem rs_apart {w : World} {g : Nat} {T : TypeId} {vs0 : Array Value} {v : Value} {ls : List Int} (hg : w.heap[g]? = some (.cells vs0 T (0, 0))) (hk : ∀ (i : Nat) (x : Value), vs0[i]? = some x -> ∃ n, x = .int .u64 n)
  (h : Rep w (fun _ => False) [] (.rs 1 (ls.map fun z => [SV.int .i64 z])) v) : Rep w (Ex (fun _ => False) [.fix g]) [.fix g] (.rs 1 (ls.map fun z => [SV.int .i64 z])) v := by
 generalize he : (ls.map fun z => [SV.int .i64 z]) = es at h
 cases h with
 | rs0 hc => exact .rs0 hc
 | @rs _ _ _ ad c val hc hm hE hlt hlen hcell hone hrep =>
  have hint : ∀ (i : Nat) (e : List SV) (j : Nat) (s : SV), es[i]? = some e -> e[j]? = some s -> ∃ n, s = .int .i64 n := fun i e j s h1 h2 => by
   rw [<- he, List.getElem?_map] at h1
   obtain ⟨z, _, rfl⟩ := Option.map_eq_some_iff.1 h1
   match j with
   | 0 => simp at h2; exact ⟨z, h2.symm⟩
   | j + 1 => simp at h2
  by_cases hnil : es = []
  ·subst hnil
   exact .rs0 (a := some ad) hm
  ·refine .rs hc hm ?_ hlt hlen hcell hone fun i e j s h1 h2 => ?_
   ·rintro (hx | ⟨i, e, h1, h2⟩)
    ·exact hx
    ·match i with
     | 0 =>
      simp at h1; subst h1
      simp [Ent.blk] at h2
      obtain ⟨e0, r, rfl⟩ := List.exists_cons_of_ne_nil hnil
      have hl := hlen 0 e0 rfl
      obtain ⟨s0, rfl⟩ : ∃ s0, e0 = [s0] := List.length_eq_one_iff.1 hl
      have hcl := hcell 0 [s0] 0 s0 rfl rfl
      obtain ⟨n, rfl⟩ := hint 0 [s0] 0 s0 rfl rfl
      have hr := hrep 0 _ 0 _ rfl rfl
      generalize val 0 0 = x at hcl hr
      cases hr
      have hb : (ad.add (0 * 1 + 0)).block = g := by rw [add_block]; exact h2.symm
      unfold World.cell? at hcl
      rw [hb, hg] at hcl
      simp only at hcl
      split at hcl
      ·cases hcl
      ·obtain ⟨n', hn'⟩ := hk _ _ hcl
       simp at hn'
     | i + 1 => simp at h1
   ·obtain ⟨n, rfl⟩ := hint i e j s h1 h2
    have hr := hrep i e j _ h1 h2
    generalize val i j = x at hr
    cases hr
    exact .int
theorem law_callsG {f : FuncId} {fn : Func} {c : Code} {args : List SV} (hf : P.funcs[f]? = some fn) (hn : (fn.name == "runtime.NumGoroutine") = false) (hb : fn.body = some c) {g : Nat} {T : TypeId} {cs : List SV}
  (hc : CallG P f args [.glob g T cs] fun s h => s = .tt /\ h[0]? = some (.glob g T cs)) (hnum : numsB cs = true) {w : World} {vs0 : Array Value} (hg : w.heap[g]? = some (.cells vs0 T (0, 0)))
  (hl : cs.length = vs0.size) (hrep : ∀ (i : Nat) (s : SV) (v : Value), cs[i]? = some s -> vs0[i]? = some v -> Rep w (Ex (fun _ => False) [.fix g]) [] s v /\ v.oneCell' = true)
  {vs : List Value} (hr : RepL w (Ex (fun _ => False) [.fix g]) [.fix g] args vs) :
  Calls P f vs.toArray w fun e w' => e = .returned (.bool true) /\ RowKit.Below w.heap.size w w' := by
 have hlt : g < w.heap.size := (Array.getElem?_eq_some_iff.1 hg).1
 have hI : Inv w (fun _ => False) [.fix g] [.glob g T cs] := by
  refine ⟨rfl, fun i b e h1 h2 => ?_, fun i e k h1 h2 => ?_, fun i j e e' k h1 h2 _ _ => ?_, fun k h => h.elim, fun k h => h.elim⟩
  ·cases i with
   | zero => simp at h1 h2; subst h1; subst h2; exact ⟨rfl, vs0, hg, hl, hrep⟩
   | succ i => simp at h1
  ·cases i with
   | zero => simp at h1; subst h1; simp [Ent.blk] at h2; subst h2; exact hlt
   | succ i => simp at h1
  ·cases i with
   | zero => cases j with
    | zero => rfl
    | succ j => simp at h2
   | succ i => simp at h1
 have := hc.ok w (fun _ => False) [.fix g] vs hI hr
 have hcall : (callFunc f vs.toArray).run P w = .ok (.enter f vs.toArray) w := by
  have h1 : fn.name ≠ "runtime.NumGoroutine" := by simpa using hn
  simp [callFunc, hf, h1, hb]
 unfold DoneS at this
 rw [hcall] at this
 refine this.mono fun e w' ⟨v, he, s, h', σ', ⟨e1, h0⟩, hrv, hI', hS⟩ => ?_
 subst e1
 have hlt' : 0 < σ'.length := by rw [hI'.len]; exact (List.getElem?_eq_some_iff.1 h0).1
 have he' : σ'[0]? = some (σ'[0]'hlt') := List.getElem?_eq_getElem hlt'
 have hok' := hI'.ok 0 _ _ h0 he'
 refine ⟨?_, ⟨hS.os, hS.tape, hS.output, hS.size, fun k hk => ?_⟩⟩
 ·rw [he]
  cases hrv
  rfl
 ·by_cases hkg : k = g
  ·subst hkg
   generalize σ'[0]'hlt' = e at hok'
   cases e <;> simp only [BlkOK] at hok'
   obtain ⟨rfl, vs', b1, b2, b3⟩ := hok'
   rw [b1, hg, ints_eq hnum hl b2 hrep b3]
  ·refine hS.frame k hk fun ⟨i, e, h1, h2⟩ => ?_
   cases i with
   | zero => simp at h1; subst h1; simp [Ent.blk] at h2; exact hkg h2.symm
   | succ i => simp at h1
theorem know_iv {k : IntKind} {x lo hi : Int} (h1 : lo <= x) (h2 : x <= hi) : Know (.int k x) (.iv k x lo hi 1 0) := fun _ _ _ _ hr => by cases hr; exact .iv h1 h2 (Int.emod_one x)
theorem know_any {s : SV} : Know s .any := fun _ _ _ _ _ => .any
def Knows (l l' : List SV) : Prop := l.length = l'.length /\ ∀ (i : Nat) (s s' : SV), l[i]? = some s -> l'[i]? = some s' -> Know s s'
theorem knows_nil : Knows [] [] := ⟨rfl, by simp⟩
theorem knows_cons {a b : SV} {l l' : List SV} (h : Know a b) (hl : Knows l l') : Knows (a :: l) (b :: l') :=
 ⟨by simp [hl.1], fun i s s' h1 h2 => by
  cases i with
  | zero => simp at h1 h2; subst h1; subst h2; exact h
  | succ i => exact hl.2 i s s' (by simpa using h1) (by simpa using h2)⟩
theorem know_agg {l l' : List SV} (h : Knows l l') : Know (.agg l) (.agg l') := fun w E σ v hr => by
 cases hr with
 | agg hl h1 hc =>
  refine .agg (by rw [<- h.1]; exact hl) h1 fun i s v hs hv => ?_
  have hi : i < l.length := by rw [h.1]; exact (List.getElem?_eq_some_iff.1 hs).1
  exact h.2 i _ s (List.getElem?_eq_getElem hi) hs w E σ v (hc i _ v (List.getElem?_eq_getElem hi) hv)
end
end Go.Sx

namespace Go.Proofs.YtbppedokdfmnoaaGreatDoor
open Go.Sx
theorem alx_rng (ls : List Int) (a : Int) : 1 <= (alx ls a).1 /\ (alx ls a).1 <= 1048575 /\ 2 <= (alx ls a).2 /\ (alx ls a).2 <= 1048576 /\ (alx ls a).1 < (alx ls a).2 := by
 have h0 := nxt_lo ls a 6
 have h1 := nxt_hi ls a 6 (by omega)
 have key : ∀ k : Nat, k < 6 -> 1 <= (als.getD k (0, 0)).1 /\ (als.getD k (0, 0)).1 <= 1048575 /\ 2 <= (als.getD k (0, 0)).2 /\ (als.getD k (0, 0)).2 <= 1048576 /\ (als.getD k (0, 0)).1 < (als.getD k (0, 0)).2 := by decide
 exact key _ (by omega)
theorem qu_rng (ls : List Int) (a m : Int) : 256 <= (cfX ls a m).qu /\ (cfX ls a m).qu <= 5000 := by
 have key : ∀ k : Nat, k < 3 -> 256 <= quL.getD k 0 /\ quL.getD k 0 <= 5000 := by decide
 show 256 <= quL.getD (nxt ls (pkP ls (a + 1) + 1 + 1 + 1 + 1) 3).toNat 0 /\ _
 have h0 := nxt_lo ls (pkP ls (a + 1) + 1 + 1 + 1 + 1) 3
 have h1 := nxt_hi ls (pkP ls (a + 1) + 1 + 1 + 1 + 1) 3 (by omega)
 exact key _ (by omega)
theorem wi_rng (ls : List Int) (a m : Int) : 1 <= (cfX ls a m).wi /\ (cfX ls a m).wi <= 64 := by
 have key : ∀ k : Nat, k < 4 -> 1 <= wiL.getD k 0 /\ wiL.getD k 0 <= 64 := by decide
 show 1 <= wiL.getD (nxt ls (pkP ls (a + 1) + 1 + 1 + 1) 4).toNat 0 /\ _
 have h0 := nxt_lo ls (pkP ls (a + 1) + 1 + 1 + 1) 4
 have h1 := nxt_hi ls (pkP ls (a + 1) + 1 + 1 + 1) 4 (by omega)
 exact key _ (by omega)
theorem cb_rng (ls : List Int) (a m : Int) : 4096 <= (cfX ls a m).cb /\ (cfX ls a m).cb <= 8096 := by
 show 4096 <= 4096 + 2000 * nxt ls (pkP ls (a + 1) + 1) 3 /\ 4096 + 2000 * nxt ls (pkP ls (a + 1) + 1) 3 <= 8096
 have h0 := nxt_lo ls (pkP ls (a + 1) + 1) 3
 have h1 := nxt_hi ls (pkP ls (a + 1) + 1) 3 (by omega)
 omega
theorem cp_rng (ls : List Int) (a m : Int) : 1 <= (cfX ls a m).cp /\ (cfX ls a m).cp <= 4 := by
 show 1 <= 1 + nxt ls (pkP ls (a + 1)) 4 /\ 1 + nxt ls (pkP ls (a + 1)) 4 <= 4
 have h0 := nxt_lo ls (pkP ls (a + 1)) 4
 have h1 := nxt_hi ls (pkP ls (a + 1)) 4 (by omega)
 omega
theorem tr_rng (ls : List Int) (a m : Int) : 1 <= (cfX ls a m).tr /\ (cfX ls a m).tr <= 4 := by
 show 1 <= 1 + nxt ls (pkP ls (a + 1) + 1 + 1) 4 /\ 1 + nxt ls (pkP ls (a + 1) + 1 + 1) 4 <= 4
 have h0 := nxt_lo ls (pkP ls (a + 1) + 1 + 1) 4
 have h1 := nxt_hi ls (pkP ls (a + 1) + 1 + 1) 4 (by omega)
 omega
def drX (ls : List Int) (m : Int) : Dr := ⟨(alx ls 1).1, (alx ls 1).2, (cfX ls 1 m).cp, (cfX ls 1 m).cb, (cfX ls 1 m).tr, (cfX ls 1 m).wi, (cfX ls 1 m).qu⟩
theorem know_cfg (ls : List Int) (m : Int) : Know (cfE (cfX ls 1 m)) (cfS m (drX ls m)) := by
 obtain ⟨a1, a2, a3, a4, _⟩ := alx_rng ls 1
 obtain ⟨b1, b2⟩ := cb_rng ls 1 m
 obtain ⟨c1, c2⟩ := cp_rng ls 1 m
 obtain ⟨d1, d2⟩ := tr_rng ls 1 m
 obtain ⟨e1, e2⟩ := wi_rng ls 1 m
 obtain ⟨f1, f2⟩ := qu_rng ls 1 m
 exact know_agg (knows_cons (.refl _) (knows_cons (know_iv a1 a2) (knows_cons (know_iv a3 a4) (knows_cons know_any (knows_cons know_any (knows_cons know_any (knows_cons (know_iv c1 c2) (knows_cons (know_iv b1 b2) (knows_cons (.refl _)
  (knows_cons (know_iv d1 d2) (knows_cons (know_iv e1 e2) (knows_cons (know_iv f1 f2) (knows_cons know_any (knows_cons know_any (knows_cons (.refl _) knows_nil)))))))))))))))
theorem dr_lt (ls : List Int) (m : Int) : (drX ls m).an < (drX ls m).ad := (alx_rng ls 1).2.2.2.2
theorem law_bok (ls : List Int) : BOK Tryz.prog gH.view (bodyOf Tryz.f3) (viewF 103 (fE ls)) gH.view fun x F h => x = .ret /\ F[2]? = some .tt /\ h[0]? = some (.glob 0 457 pow10) := by
 have h0 := nxt_lo ls 0 2
 have h1 := nxt_hi ls 0 2 (by omega)
 have hm : 1 + nxt ls 0 2 = 1 ∨ 1 + nxt ls 0 2 = 2 := by omega
 rcases hm with hm | hm
 ·exact law_bok1 (envQ_ok hm.symm (know_cfg ls 1)) (envR_ok hm.symm (know_cfg ls 1)) (envZ_ok (audit1 (dr_lt ls 1))) (dr_lt ls 1)
 ·exact law_bok2 (envQ_ok hm.symm (know_cfg ls 2)) (envR_ok hm.symm (know_cfg ls 2)) (envZ_ok (audit2 (dr_lt ls 2))) (dr_lt ls 2)
theorem law_call (ls : List Int) : CallG Tryz.prog 3 [.rs 1 (nums ls)] [.glob 0 457 pow10] fun s h => s = .tt /\ h[0]? = some (.glob 0 457 pow10) := by
 have hB := law_bok ls
 rw [gH_view] at hB
 have hnt : Tryz.f3.ntmps = 103 := by kernel_rfl
 have hb : Tryz.f3.body = some (bodyOf Tryz.f3) := by kernel_rfl
 have hr : Tryz.f3.results.toList = [.tmp 2] := by kernel_rfl
 have hn : (Tryz.f3.name == "runtime.NumGoroutine") = false := by kernel_rfl
 exact CallG.of_bok Tryz.func3 hn hb hnt hr (Eq.mpr (start_eq ls) (Eq.refl _)) hB
end Go.Proofs.YtbppedokdfmnoaaGreatDoor
