/- The symbolic executor is sound: slices, builtins; all operations together. No statement of the seat is proved here. -/
import Derived.Test.YthlomoacacebeacSxI
import Derived.Lib.Strings
namespace Go.Sx
section
variable {P : Program} {T : Tab}

theorem boundK_sound {F : Fr} {x : Option Operand} {d : Nat} {k : Int → Prop} (h : opK.boundK F x d k) :
    ∃ n : Int, k n ∧ ((x = none ∧ n = d) ∨ ∃ y, x = some y ∧ ∀ (w : World) (E : Nat → Prop) (σ : Sg) (ρ : Operand → Value), OpnRep w E σ F ρ y → ∃ q, ρ y = .int q n) := by
  cases x with
  | none => exact ⟨d, h, .inl ⟨rfl, rfl⟩⟩
  | some y =>
    obtain ⟨s, h, hs⟩ := evK_sound (show evK F y _ from h)
    cases s with
    | int q n => exact ⟨n, h, .inr ⟨y, rfl, fun w E σ ρ ho => ⟨q, by have := hs w E σ ρ ho; generalize ρ y = v at this; cases this; rfl⟩⟩⟩
    | _ => exact h.elim

theorem bounds_run {isSlice : Bool} {len cap : Nat} {lo hi : Option Operand} {l u : Int} {ρ : Operand → Value} {w : World}
    (hl : (lo = none ∧ l = 0) ∨ ∃ y, lo = some y ∧ ∃ q, ρ y = .int q l) (hu : (hi = none ∧ u = len) ∨ ∃ y, hi = some y ∧ ∃ q, ρ y = .int q u) (h0 : 0 ≤ l) (h1 : l ≤ u) (h2 : u ≤ (cap : Int)) :
    (Instr.sliceBounds isSlice len cap (lo.map ρ) (hi.map ρ) none).run P w = .ok (l.toNat, u.toNat, cap) w := by
  have hb : ∀ (v : Value) (q : IntKind) (n : Int) (y : Nat) (c : BoundsCode), v = .int q n → 0 ≤ n → n ≤ (y : Int) → (Instr.sliceBound v y c).run P w = .ok n.toNat w := by
    intro v q n y c hv h0 h1
    subst hv
    simp [Instr.sliceBound, asIntOf, h0, h1]
  unfold Instr.sliceBounds
  rcases hu with ⟨rfl, rfl⟩ | ⟨yh, rfl, qh, hyh⟩ <;> rcases hl with ⟨rfl, rfl⟩ | ⟨yl, rfl, ql, hyl⟩
  · simp
  · simp only [Option.map_none, Option.map_some, Sem.run_bind, Sem.run_pure, Result.andThen_ok, hb _ ql l len _ hyl h0 h1, Int.toNat_natCast]
  · simp only [Option.map_none, Option.map_some, Sem.run_bind, Sem.run_pure, Result.andThen_ok, hb _ qh u cap _ hyh (by omega) h2]; rfl
  · simp only [Option.map_some, Sem.run_bind, Sem.run_pure, Result.andThen_ok, hb _ qh u cap _ hyh (by omega) h2, hb _ ql l u.toNat _ hyl h0 (by omega)]

theorem slice_ok (hT : TabOK P T) {F : Fr} {h : Hp} {nid : Nat} {t : TypeId} {x : Operand} {lo hi mx : Option Operand} {K : Kop} (hk : opK T F h nid (.slice t x lo hi mx) K) : OpGood P F h (.slice t x lo hi mx) K := by
  replace hk := tyK_sound hT (show tyK T t _ from hk)
  obtain ⟨sx, hk, hx⟩ := evK_sound hk
  generalize hti : (teOf P t).ti = ti at hk
  cases mx with
  | some _ => exact hk.elim
  | none =>
    obtain ⟨l, hk, hl⟩ := boundK_sound hk
    have hlo : ∀ (w : World) (E : Nat → Prop) (σ : Sg) (ρ : Operand → Value), (∀ z ∈ (Op.slice t x lo hi none).operands.toList, OpnRep w E σ F ρ z) → (lo = none ∧ l = 0) ∨ ∃ y, lo = some y ∧ ∃ q, ρ y = .int q l := fun w E σ ρ ho => by
      rcases hl with ⟨h1, h2⟩ | ⟨y, hy, hr⟩
      · exact .inl ⟨h1, by simpa using h2⟩
      · exact .inr ⟨y, hy, hr w E σ ρ (ho y (by subst hy; simp [Op.operands]))⟩
    cases ti with
    | str =>
      have hu := und_str (ti_of hti (by simp)).1
      cases sx with
      | str s =>
        obtain ⟨u, ⟨⟨h0, h1, h2⟩, hk⟩, hu'⟩ := boundK_sound (show opK.boundK F hi s.length _ from hk)
        exact good_pure hk fun w E σ ρ d ty pos after guard ho => by
          have hr := hx w E σ ρ (ho x (by simp [Op.operands]))
          generalize hρ : ρ x = vx at hr
          cases hr
          have hhi : (hi = none ∧ u = s.length) ∨ ∃ y, hi = some y ∧ ∃ q, ρ y = .int q u := by
            rcases hu' with h | ⟨y, hy, hr⟩
            · exact .inl h
            · exact .inr ⟨y, hy, hr w E σ ρ (ho y (by subst hy; simp [Op.operands]))⟩
          have hsz : (⟨s.toArray⟩ : ByteArray).size = s.length := by simp [ByteArray.size]
          have hb := bounds_run (P := P) (w := w) (isSlice := false) (len := s.length) (cap := s.length) (hlo w E σ ρ ho) hhi h0 h1 h2
          refine ⟨.string ⟨((s.take u.toNat).drop l.toNat).toArray⟩, run_val (m := Instr.sliceAt t (ρ x) (lo.map ρ) (hi.map ρ) none) ?_, .str⟩
          rw [hρ]
          simp only [Instr.sliceAt, Instr.slice, Sem.run_bind, run_underlying' hu, Result.andThen_ok, hsz, hb, Option.isSome_none, Bool.false_eq_true, if_false, Sem.run_pure]
          rw [Lib.extract_eq]
          have : (List.drop l.toNat s).take (u.toNat - l.toNat) = (s.take u.toNat).drop l.toNat := by rw [List.drop_take]
          simp only [this]
      | _ => exact hk.elim
    | slice e =>
      have hu := und_slice (ti_of hti (by simp)).1
      cases sx with
      | rs z es =>
        obtain ⟨sz, ag, hk, _, hn⟩ := isAggK_sound hT (show isAggK T e _ from hk)
        cases hb : Nat.beq sz z with
        | false => rw [hb] at hk; exact hk.elim
        | true =>
          rw [hb] at hk
          obtain ⟨u, ⟨⟨h0, h1, h2⟩, hkk⟩, hu'⟩ := boundK_sound (show opK.boundK F hi es.length _ from hk)
          have hzz := Nat.eq_of_beq_eq_true hb
          subst hzz
          exact good_pure hkk fun w E σ ρ d ty pos after guard ho => by
            have hr := hx w E σ ρ (ho x (by simp [Op.operands]))
            have hhi : (hi = none ∧ u = es.length) ∨ ∃ y, hi = some y ∧ ∃ q, ρ y = .int q u := by
              rcases hu' with h | ⟨y, hy, hr⟩
              · exact .inl h
              · exact .inr ⟨y, hy, hr w E σ ρ (ho y (by subst hy; simp [Op.operands]))⟩
            have hlen : ((es.take u.toNat).drop l.toNat).length = u.toNat - l.toNat := by simp; omega
            -- whatever address and capacity
            have key : ∀ (a : Option Addr) (c : Nat), es.length ≤ c → c ≤ maxLen → ρ x = .slice a es.length c →
                Rep w E σ (.rs sz ((es.take u.toNat).drop l.toNat)) (.slice (if c = l.toNat then a else a.map (·.add (l.toNat * sz))) (u.toNat - l.toNat) (c - l.toNat)) →
                ∃ v, (execOp ρ ⟨d, .slice t x lo hi none, ty, pos, after, guard⟩).run P w = .ok (.value v) w ∧ Rep w E σ (.rs sz ((es.take u.toNat).drop l.toNat)) v := by
              intro a c hc hm hρ hrep
              have hb := bounds_run (P := P) (w := w) (isSlice := true) (len := es.length) (cap := c) (hlo w E σ ρ ho) hhi h0 h1 (by omega)
              refine ⟨_, run_val (m := Instr.sliceAt t (ρ x) (lo.map ρ) (hi.map ρ) none) ?_, hrep⟩
              rw [hρ]
              simp only [Instr.sliceAt, Instr.slice, Sem.run_bind, run_underlying' hu, Result.andThen_ok, hb, hn w, Sem.run_pure]
            generalize hρ : ρ x = vx at hr
            cases hr with
            | @rs0 _ _ a c hc =>
              refine key a c (by simp) hc hρ ?_
              have e0 : (([] : List (List SV)).take u.toNat).drop l.toNat = [] := by simp
              rw [e0]
              have : u.toNat - l.toNat = 0 := by simp at h2; omega
              rw [this]
              exact .rs0 (by omega)
            | @rs _ _ _ ad c val hc hm hE hlt hel hcell hone hrep =>
              refine key (some ad) c hc hm hρ ?_
              by_cases hnil : (es.take u.toNat).drop l.toNat = []
              · rw [hnil] at hlen ⊢
                simp at hlen
                rw [← hlen]
                exact .rs0 (by omega)
              · have hpos : 0 < ((es.take u.toNat).drop l.toNat).length := List.length_pos_iff.2 hnil
                rw [if_neg (by omega), ← hlen]
                have hget : ∀ (i : Nat) (e' : List SV), ((es.take u.toNat).drop l.toNat)[i]? = some e' → es[l.toNat + i]? = some e' := fun i e' he => by
                  rw [List.getElem?_drop, List.getElem?_take] at he
                  split at he
                  · exact he
                  · simp at he
                have hmul : ∀ i j, (ad.add (l.toNat * sz)).add (i * sz + j) = ad.add ((l.toNat + i) * sz + j) := fun i j => by
                  rw [add_add, Nat.add_mul, Nat.add_assoc]
                refine .rs (ad := ad.add (l.toNat * sz)) (val := fun i j => val (l.toNat + i) j) (by omega) (by omega) (by rw [add_block]; exact hE) (by rw [add_block]; exact hlt)
                  (fun i e' he => hel _ e' (hget i e' he)) (fun i e' j s he hs => by rw [hmul]; exact hcell _ e' j s (hget i e' he) hs) (fun i e' j s he hs => hone _ e' j s (hget i e' he) hs) fun i e' j s he hs => hrep _ e' j s (hget i e' he) hs
      | _ => exact hk.elim
    | _ => cases sx <;> exact hk.elim

theorem makeSlice_ok (hT : TabOK P T) {F : Fr} {h : Hp} {nid : Nat} (hf : h[nid]? = some .fresh) {t : TypeId} {x y : Operand} {K : Kop} (hk : opK T F h nid (.makeSlice t x y) K) : OpGood P F h (.makeSlice t x y) K := by
  replace hk := tyK_sound hT (show tyK T t _ from hk)
  generalize hti : (teOf P t).ti = ti at hk
  cases ti with
  | slice e =>
    replace hk := tyK_sound hT (show tyK T e _ from hk)
    obtain ⟨i, z, hi, hsize, hbytes, hz, hz1, hz3, hzsz, hk⟩ := info_of_zero hk
    obtain ⟨sx, hk, hx⟩ := evK_sound hk
    obtain ⟨sy, hk, hy⟩ := evK_sound hk
    have hu := und_slice (ti_of hti (by simp)).1
    obtain ⟨q1, n, q2, c, hsx, hsy, ⟨hc, h0, hb, h63, hpos⟩, hkk⟩ : ∃ q1 n q2 c, sx = .int q1 n ∧ sy = .int q2 c ∧ (c = n ∧ 0 ≤ n ∧ n * (teOf P e).bytes ≤ 281474976710656 ∧ n ≤ 9223372036854775807 ∧ 0 < (teOf P e).size) ∧
        K (.sl nid) [(nid, .row e (teOf P e).size (List.replicate n.toNat (teOf P e).zero))] [nid] := by
      cases sx with
      | int q1 n => cases sy with
        | int q2 c => exact ⟨q1, n, q2, c, rfl, rfl, hk⟩
        | _ => exact hk.elim
      | _ => cases sy <;> exact hk.elim
    subst hsx; subst hsy; subst hc
    refine ⟨_, _, _, hkk, fun w X σ h2 ρ d ty pos after guard hI ho hrd => ?_, by simp⟩
    have hf' : h2[nid]? = some .fresh := (hrd nid (by simp)).trans hf
    have r1 := hx w _ σ ρ (ho x (by simp [Op.operands]))
    have r2 := hy w _ σ ρ (ho y (by simp [Op.operands]))
    generalize hρx : ρ x = vx at r1
    generalize hρy : ρ y = vy at r2
    cases r1; cases r2
    rw [hsize] at hpos ⊢
    rw [hbytes] at hb
    obtain ⟨n, rfl⟩ := Int.eq_ofNat_of_zero_le h0
    have hrun := run_make (P := P) w t e i z hu hi hz1 q1 q2 (n : Int) (n : Int) (by omega) (by omega) (by rw [Int.mul_comm]; exact hb) h63
    unfold OpRes DoneS
    rw [show execOp ρ ⟨d, .makeSlice t x y, ty, pos, after, guard⟩ = (do pure (.value (← Instr.makeSlice t (ρ x) (ρ y)))) from rfl, hρx, hρy, run_val hrun]
    have hm : madeCells z.cells (n * i.size) = (Array.range (n * i.size)).map (z.cells[· % z.cells.size]!) ∨ n * i.size = 0 := by
      by_cases h0 : n * i.size = 0
      · exact .inr h0
      · exact .inl (by simp [madeCells])
    have := new_row hI hf' (t := e) (sz := i.size) (cap := n) (es := List.replicate n (z.cells.toList.map ofV)) (vs := madeCells z.cells (n * i.size)) (by simp) (by simp only [maxLen]; omega)
      (by rcases hm with hm | hm <;> simp [madeCells]) (by
        rcases hm with hm | hm
        · rw [hm]; exact zeros_row hzsz hz3
        · have : n = 0 := by rcases Nat.mul_eq_zero.1 hm with h | h <;> omega
          subst this; intro i e he; simp at he)
    simp only [List.length_replicate] at this
    simp only [Int.toNat_natCast, hz]
    exact this
  | _ => exact hk.elim
end
end Go.Sx
