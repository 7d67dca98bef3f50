/- Drawn regions: what is forgotten behind one; calls that leave what they are handed. -/
import Derived.Test.YtdommpfnoiemkaaGen
namespace Go.Proofs.Ytdommpfnoiemkaa
open Go.Sx
theorem DrawG.xg {P : Program} {m id : Nat} {ops : Array Oper} {F : Fr} {h : Hp} {K : Fr → Hp → Prop} (hk : DrawG P m id ops F h fun F' h' => XG m F' h' K) : DrawG P m id ops F h K := by
  refine ⟨fun w X σ tmps hI hF => wp_mono (hk.ok w X σ tmps hI hF) fun e a w' hq => ?_⟩
  obtain ⟨hd, x, F', h', σ', hx, ⟨hn, hxg⟩, hI', hF', hS⟩ := hq
  obtain ⟨F2, h2, hsh, hk⟩ := hxg.ok
  obtain ⟨σ2, hI2, hF2, hS2⟩ := hsh.ok w' X σ' a.tmps hI' hF'
  exact ⟨hd, x, F2, h2, σ2, hx, ⟨hn, hk⟩, hI2, hF2, hS.trans hS2⟩
theorem upd_same (l : Ws) : ∀ {h : Hp}, (∀ p ∈ l, h[p.1]? = some p.2) → upd l h = h := by
  induction l with
  | nil => intro h _; rfl
  | cons p l ih =>
    intro h hp
    have e : h.set p.1 p.2 = h := by
      apply List.ext_getElem?
      intro i
      rw [List.getElem?_set]
      by_cases hi : p.1 = i
      · have := hp p (by simp)
        rw [if_pos hi, ← hi, this, if_pos (List.getElem?_eq_some_iff.1 this).1]
      · rw [if_neg hi]
    show upd l (h.set p.1 p.2) = h
    rw [e]
    exact ih fun q hq => hp q (by simp [hq])
theorem _root_.Go.Sx.OSpec.calldR {P : Program} {f : FuncId} {args args' : List SV} {hin : Hp} {s : SV} (hs : OSpec P f args hin fun s' ho' => s' = s ∧ ho' = hin) (ρ : List Nat) (hn : ρ.Nodup) {h : Hp} {nid : Nat} {K : Kop}
    (ha : argsK ρ args args' True) (hh : insK h ρ hin True) (hk : K s [] ρ) : CallD P f args' h nid K :=
  ⟨s, [], ρ, hk, ⟨fun _ _ _ h2 _ hI hr hag => (hs.run hn ha hh hI hag hr).mono fun _ _ ⟨s', ho', σ', ⟨e1, e2⟩, _, hrep, hI', hS⟩ => by
    subst e1; subst e2
    obtain ⟨_, hlen, hins⟩ := insK_sound ρ hh
    have e : back ρ ho' h2 = h2 := upd_same _ fun p hp => by
      obtain ⟨i, hi⟩ := List.mem_iff_getElem?.1 hp
      obtain ⟨a, b⟩ := p
      rw [List.getElem?_zip_eq_some] at hi
      rw [hag a (List.mem_of_getElem? hi.1)]
      exact hins i a b hi.1 hi.2
    rw [e] at hI'
    exact ⟨σ', hrep, hI', hS, by rw [hI'.len, hI.len]⟩, by simp⟩⟩
end Go.Proofs.Ytdommpfnoiemkaa
