/- The symbolic executor is sound: builtins; all operations together; regions and code. No statement of the seat is proved here. -/
import Derived.Test.YthlomoacacebeacSxJb
import Derived.Laws.Cover1
namespace Go.Sx
section
variable {P : Program} {T : Tab}

theorem len_ok (hT : TabOK P T) {F : Fr} {h : Hp} {nid : Nat} {xs : Array Operand} {ats : Array TypeId} {K : Kop} (hk : opK T F h nid (.call ⟨.builtin .len, xs, ats⟩) K) : OpGood P F h (.call ⟨.builtin .len, xs, ats⟩) K := by
  obtain ⟨ss, hk, hs⟩ := evsK_sound (show evsK F xs.toList _ from hk)
  have hos : ∀ (w : World) (E : Nat → Prop) (σ : Sg) (ρ : Operand → Value), (∀ z ∈ (Op.call ⟨.builtin .len, xs, ats⟩).operands.toList, OpnRep w E σ F ρ z) → RepL w E σ ss (xs.toList.map ρ) := fun w E σ ρ ho => hs w E σ ρ fun y hy => ho y (by simp [Op.operands, Call.operands]; simpa using hy)
  cases hat : ats.toList with
  | nil => rw [hat] at hk; exact hk.elim
  | cons t l =>
    cases l with
    | cons _ _ => rw [hat] at hk; exact hk.elim
    | nil =>
      rw [hat] at hk
      have hk2 := tyK_sound hT (show tyK T t _ from hk)
      generalize hti : (teOf P t).ti = ti at hk2
      clear hk
      have hats : ats = #[t] := by rw [← Array.toArray_toList (xs := ats), hat]
      subst hats
      have hlen : ∀ {w : World} {ρ : Operand → Value} {v : Value} {n : Int} {d : Option Tmp} {ty : TypeId} {pos : String} {after : Array Edge} {guard : Option (Nat × Bool)}, xs.toList.map ρ = [v] → (Builtin.len_ #[t] ty #[v]).run P w = .ok (.int .i64 n) w →
          (execOp ρ ⟨d, .call ⟨.builtin .len, xs, #[t]⟩, ty, pos, after, guard⟩).run P w = .ok (.value (.int .i64 n)) w := by
        intro w ρ v n d ty pos after guard hv hr
        rw [exec_builtin, map_of_list hv, BigFrame.builtin_len]
        exact run_val hr
      have one : ∀ s, ss = [s] → ∀ (w : World) (E : Nat → Prop) (σ : Sg) (ρ : Operand → Value), (∀ z ∈ (Op.call ⟨.builtin .len, xs, #[t]⟩).operands.toList, OpnRep w E σ F ρ z) → ∃ v, xs.toList.map ρ = [v] ∧ Rep w E σ s v := by
        intro s hs' w E σ ρ ho
        subst hs'
        exact repl1 (hos w E σ ρ ho)
      split at hk2
      · have hu := und_str (ti_of hti (by simp)).1
        exact good_pure hk2 fun w E σ ρ d ty pos after guard ho => by
          obtain ⟨v, hv, hr⟩ := one _ rfl w E σ ρ ho
          cases hr
          exact ⟨_, hlen hv (by simp [Builtin.len_, run_underlying' hu, goInt, size_mk]), .int⟩
      · have hu := und_slice (ti_of hti (by simp)).1
        exact good_pure hk2 fun w E σ ρ d ty pos after guard ho => by
          obtain ⟨v, hv, hr⟩ := one _ rfl w E σ ρ ho
          cases hr
          exact ⟨_, hlen (n := 0) hv (by simp [Builtin.len_, run_underlying' hu, goInt]), .int⟩
      · have hu := und_slice (ti_of hti (by simp)).1
        exact good_pure hk2 fun w E σ ρ d ty pos after guard ho => by
          obtain ⟨v, hv, hr⟩ := one _ rfl w E σ ρ ho
          cases hr with
          | rs0 _ => exact ⟨_, hlen (n := 0) hv (by simp [Builtin.len_, run_underlying' hu, goInt]), .int⟩
          | rs _ _ _ _ _ _ _ _ => exact ⟨_, hlen hv (by simp [Builtin.len_, run_underlying' hu, goInt]), .int⟩
      · rename_i e b
        have hu := und_slice (ti_of hti (by simp)).1
        obtain ⟨blk, hb0, hk⟩ := nthK_sound (show nthK h b _ from hk2)
        cases blk with
        | row T0 z es =>
          refine ⟨_, _, _, hk, fun w X σ h2 ρ d ty pos after guard hI ho hrd => ?_, by simp⟩
          have hb' : h2[b]? = some (.row T0 z es) := (hrd b (by simp)).trans hb0
          obtain ⟨v, hv, hr⟩ := one _ rfl w _ σ ρ ho
          rcases row_of hI hb' with ⟨g, cap, vs, hσ, _⟩ | ⟨hσ, hes⟩
          · cases hr with
            | sl h' =>
              rw [hσ] at h'; simp at h'; obtain ⟨rfl, rfl, rfl, rfl⟩ := h'
              exact .pure (hlen hv (by simp [Builtin.len_, run_underlying' hu, goInt])) hI .int
            | slN h' => rw [hσ] at h'; simp at h'
            | slD h' => rw [hσ] at h'; simp at h'
          · cases hr with
            | sl h' => rw [hσ] at h'; simp at h'
            | slN h' =>
              subst hes
              exact .pure (hlen (n := 0) hv (by simp [Builtin.len_, run_underlying' hu, goInt])) hI .int
            | slD h' => rw [hσ] at h'; simp at h'
        | _ => exact hk.elim
      · exact hk2.elim

theorem minmax_ok {b : Builtin} (hb : b = .min ∨ b = .max) {F : Fr} {h : Hp} {nid : Nat} {xs : Array Operand} {ats : Array TypeId} {K : Kop} (hk : opK T F h nid (.call ⟨.builtin b, xs, ats⟩) K) : OpGood P F h (.call ⟨.builtin b, xs, ats⟩) K := by
  rcases hb with rfl | rfl
  · obtain ⟨ss, hk, hs⟩ := evsK_sound (show evsK F xs.toList _ from hk)
    have hos : ∀ (w : World) (E : Nat → Prop) (σ : Sg) (ρ : Operand → Value), (∀ z ∈ (Op.call ⟨.builtin .min, xs, ats⟩).operands.toList, OpnRep w E σ F ρ z) → RepL w E σ ss (xs.toList.map ρ) := fun w E σ ρ ho => hs w E σ ρ fun y hy => ho y (by simp [Op.operands, Call.operands]; simpa using hy)
    split at hk
    · rename_i k x k' y
      exact good_pure hk fun w E σ ρ d ty pos after guard ho => by
        obtain ⟨v, u, hv, hr, hr'⟩ := repl2 (hos w E σ ρ ho)
        cases hr; cases hr'
        exact ⟨.int k (if y < x then y else x), by rw [exec_builtin, map_of_list hv, BigFrame.builtin_min]; exact run_val (by simp [Builtin.min_, Builtin.min2]), .int⟩
    · rename_i k x k' y k'' z
      exact good_pure hk fun w E σ ρ d ty pos after guard ho => by
        obtain ⟨v, u, x', hv, hr, hr', hr''⟩ := repl3 (hos w E σ ρ ho)
        cases hr; cases hr'; cases hr''
        exact ⟨_, by rw [exec_builtin, map_of_list hv, BigFrame.builtin_min]; exact run_val (run_min_int3 w ats ty k k' k'' x y z), .int⟩
    · exact hk.elim
  · obtain ⟨ss, hk, hs⟩ := evsK_sound (show evsK F xs.toList _ from hk)
    have hos : ∀ (w : World) (E : Nat → Prop) (σ : Sg) (ρ : Operand → Value), (∀ z ∈ (Op.call ⟨.builtin .max, xs, ats⟩).operands.toList, OpnRep w E σ F ρ z) → RepL w E σ ss (xs.toList.map ρ) := fun w E σ ρ ho => hs w E σ ρ fun y hy => ho y (by simp [Op.operands, Call.operands]; simpa using hy)
    split at hk
    · rename_i k x k' y
      exact good_pure hk fun w E σ ρ d ty pos after guard ho => by
        obtain ⟨v, u, hv, hr, hr'⟩ := repl2 (hos w E σ ρ ho)
        cases hr; cases hr'
        exact ⟨.int k (if y > x then y else x), by rw [exec_builtin, map_of_list hv, BigFrame.builtin_max]; exact run_val (by simp [Builtin.max_, Builtin.max2]), .int⟩
    · rename_i k x k' y k'' z
      exact good_pure hk fun w E σ ρ d ty pos after guard ho => by
        obtain ⟨v, u, x', hv, hr, hr', hr''⟩ := repl3 (hos w E σ ρ ho)
        cases hr; cases hr'; cases hr''
        exact ⟨_, by rw [exec_builtin, map_of_list hv, BigFrame.builtin_max]; exact run_val (run_max_int3 w ats ty k k' k'' x y z), .int⟩
    · exact hk.elim

/-- EVERY OPERATION. -/
theorem opK_sound (hT : TabOK P T) {F : Fr} {h : Hp} {nid : Nat} {op : Op} {K : Kop} (hf : allocs T op = true → h[nid]? = some .fresh) (hk : opK T F h nid op K) : OpGood P F h op K := by
  cases op with
  | move x => exact move_ok hk
  | assign x => exact assign_ok hk
  | pick c a b => exact pick_ok hk
  | alloc t => exact alloc_ok hT (hf rfl) hk
  | box t x => exact box_ok (hf rfl) hk
  | build t ps => exact build_ok hT hk
  | buildSlice t n ps => exact buildSlice_ok hT (hf rfl) hk
  | load t x => exact load_ok hT hk
  | store t x y => exact store_ok hT hk
  | nilCheck x => exact nilCheck_ok hk
  | binOp op t x y u => exact binOp_ok hT hk
  | unOp op t x => exact unOp_ok hk
  | convert a t x => exact convert_ok hT hf hk
  | makeFunc fn a b => exact makeFunc_ok hk
  | makeSlice t x y => exact makeSlice_ok hT (hf rfl) hk
  | slice t x lo hi mx => exact slice_ok hT hk
  | fieldAddr t x f => exact fieldAddr_ok hT hk
  | field t x f => exact field_ok hT hk
  | indexAddr t x i => exact indexAddr_ok hT hk
  | index t x i => exact index_ok hT hk
  | extract x i => exact extract_ok hk
  | call c =>
    obtain ⟨callee, xs, ats⟩ := c
    cases callee with
    | builtin b =>
      cases b with
      | len => exact len_ok hT hk
      | min => exact minmax_ok (.inl rfl) hk
      | max => exact minmax_ok (.inr rfl) hk
      | append => exact append_ok hT (hf rfl) hk
      | _ => exact hk.elim
    | _ => exact hk.elim
  | _ => exact hk.elim
end
end Go.Sx
