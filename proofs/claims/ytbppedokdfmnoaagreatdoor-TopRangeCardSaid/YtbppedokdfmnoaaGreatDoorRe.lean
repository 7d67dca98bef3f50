/- Part of the executor and its soundness, or of what it is told of this seat's program. No statement of the seat is proved here. -/
import Derived.Test.YtbppedokdfmnoaaGreatDoorMe
import Derived.Test.YtbppedokdfmnoaaGreatDoorCh
import Derived.Test.YtbppedokdfmnoaaGreatDoorSx4
set_option linter.unusedSimpArgs false
set_option linter.unusedVariables false
namespace Go.Proofs.YtbppedokdfmnoaaGreatDoor
open Go.Sx
noncomputable def nextH (ls : List Int) (m : Int) : HSp := fun l H K => match l with
 | [.ptr b 0, .int .i64 n] => getH H b fun blk => (n = 2 /\ blk = chs ls 0) /\ intF (addI m (-1)) fun t => setH H b (chs ls 1) fun H' => K (.int .i64 t) H' [b]
 | _ => False
noncomputable def cfgH (ls : List Int) (m : Int) (c : SV) : HSp := fun l H K => match l with
 | [.ptr b 0, .int .i64 m'] => getH H b fun blk => (m' = m /\ blk = chs ls 1) /\ setH H b (chs ls (cfA ls 1)) fun H' => K c H' [b]
 | _ => False
/-- The numbers of the configuration that the law draws. -/
structure Dr where
 an : Int
 ad : Int
 cp : Int
 cb : Int
 tr : Int
 wi : Int
 qu : Int
noncomputable def cfS (m : Int) (d : Dr) : SV := .agg [.int .i64 m, .iv .i64 d.an 1 1048575 1 0, .iv .i64 d.ad 2 1048576 1 0, .any, .any, .any, .iv .i64 d.cp 1 4 1 0, .iv .i64 d.cb 4096 8096 1 0, .int .i64 1048576, .iv .i64 d.tr 1 4 1 0, .iv .i64 d.wi 1 64 1 0, .iv .i64 d.qu 256 5000 1 0, .any, .any, .rs 2 [[.int .i64 6000, .int .i64 100], [.int .i64 54000, .int .i64 50]]]
noncomputable def hspecsR (ls : List Int) (m : Int) (d : Dr) : List (FuncId × HSp) := (6, nextH ls m) :: (5, cfgH ls m (cfS m d)) :: (144, prdH) :: (74, obsH) :: (14, constH [] .tt 457 pow10) :: hspecs
noncomputable def envR (ls : List Int) (m : Int) (d : Dr) : Env := ⟨tab, ftab, mtab, pspecs, hspecsR ls m d, itab, true⟩
noncomputable def hspecsQ (ls : List Int) (m : Int) (d : Dr) : List (FuncId × HSp) := (6, nextH ls m) :: (5, cfgH ls m (cfS m d)) :: (14, constH [] .tt 457 pow10) :: hspecs
noncomputable def envQ (ls : List Int) (m : Int) (d : Dr) : Env := ⟨tab, ftab, mtab, pspecs, hspecsQ ls m d, itab, true⟩
noncomputable def lawLoop : Code := ((loopsC (bodyOf Tryz.f3))[1]?).getD .skip
noncomputable def lawPre : List Code := headsC 9 (bodyOf Tryz.f3)
noncomputable def lawRest : Code := tailC 9 (bodyOf Tryz.f3)
noncomputable def leftC (c : Code) : Code := match c with | .seq a _ => a | c => c
noncomputable def rightC (c : Code) : Code := match c with | .seq _ b => b | c => c
noncomputable def lawR13 : Code := leftC (leftC lawRest)
noncomputable def lawEnd : Code := rightC lawRest
theorem lawRest_eq : lawRest = .seq (.seq lawR13 (.block 2 (.loop lawLoop))) lawEnd := by kernel_rfl
noncomputable def fE (ls : List Int) : FW := ⟨⟨.rs 1 (nums ls), .undef, .undef, .undef, .undef, .undef, .undef, .undef, .undef, .undef, .undef, .undef, .undef, .undef, .undef, .undef⟩, R16.rep .undef, R16.rep .undef, R16.rep .undef, R16.rep .undef, R16.rep .undef, R16.rep .undef, R16.rep .undef, R16.rep .undef, R16.rep .undef, R16.rep .undef, R16.rep .undef, R16.rep .undef, R16.rep .undef, R16.rep .undef, R16.rep .undef⟩
theorem start_eq (ls : List Int) : startW [.rs 1 (nums ls)] 103 (fun F => F = fE ls) = (fE ls = fE ls) := by kernel_rfl
end Go.Proofs.YtbppedokdfmnoaaGreatDoor

namespace Go.Sx
section
theorem SW.bsIv {q : IntKind} {N c lo hi x lo' hi' m r : Int} (h : N + c = x) (h1 : lo' <= x) (h2 : x <= hi') (h3 : x % m = r) : SW (.bs q N c lo hi) (.iv q x lo' hi' m r) := fun w E σ v hr => by
 obtain ⟨rfl, _, _⟩ := bs_inv hr
 rw [h]; exact .iv h1 h2 h3
theorem SW.ivBs {q : IntKind} {N c lo hi x lo' hi' m r : Int} (h : x = N + c) (h1 : lo <= N + c) (h2 : N + c <= hi) : SW (.iv q x lo' hi' m r) (.bs q N c lo hi) := fun w E σ v hr => by
 cases hr
 rw [h]; exact .bs h1 h2
end
end Go.Sx
namespace Go.Proofs.YtbppedokdfmnoaaGreatDoor
open Go.Sx
theorem chan_len (N c lo hi : Int) : (chan N c lo hi).length = 39 := by simp [chan]
theorem chan_at (N c lo hi : Int) : (chan N c lo hi)[35]? = some (.bs .i64 N c lo hi) := by
 unfold chan
 rw [List.append_assoc, List.getElem?_append_right (by simp), List.getElem?_append_right (by simp)]
 simp
theorem chan_free (N c lo hi : Int) (T : TypeId) : FreeBlk (.fix T (chan N c lo hi)) := by
 intro s hs w E σ σ' v hr
 simp only [chan, List.mem_append, List.mem_cons, List.not_mem_nil, or_false, List.mem_map] at hs
 rcases hs with ((rfl | rfl | rfl) | ⟨j, _, rfl⟩) | (rfl | rfl | rfl | rfl) <;> cases hr <;> constructor <;> assumption
theorem chan_known {N c lo hi : Int} {T : TypeId} {w : World} {X : Nat -> Prop} {σ : Sg} (hI : Inv w X σ [.fix T (chan N c lo hi)]) : lo <= N + c /\ N + c <= hi := by
 have hlt : 0 < σ.length := by rw [hI.len]; simp
 have := hI.ok 0 _ _ rfl (List.getElem?_eq_getElem hlt)
 generalize σ[0] = e at this
 cases e <;> simp only [BlkOK] at this
 obtain ⟨vs, _, h2, h3⟩ := this
 rw [chan_len] at h2
 have := (h3 35 _ _ (chan_at N c lo hi) (Array.getElem?_eq_getElem (by omega))).1
 exact (bs_inv this).2
theorem cellR_at (s : Nat -> Bool) (r j : Nat) : cellR s r j = if j = (r + 31) % 32 then .tt else .bool (s j) := by
 unfold cellR
 by_cases h : j = (r + 31) % 32
 ·rw [if_pos h, h, Nat.beq_refl]
 ·rw [if_neg h]
  cases hb : Nat.beq j ((r + 31) % 32) with
  | true => exact absurd (Nat.eq_of_beq_eq_true hb) h
  | false => rfl
theorem cellS_at (s : Nat -> Bool) (r j : Nat) : cellS s r j = if j = r then .tt else cellR s r j := by
 unfold cellS
 by_cases h : j = r
 ·rw [if_pos h, h, Nat.beq_refl]
 ·rw [if_neg h]
  cases hb : Nat.beq j r with
  | true => exact absurd (Nat.eq_of_beq_eq_true hb) h
  | false => rfl
theorem chan_in {N c lo hi : Int} (h1 : 1 <= N + c) (h2 : N + c <= 100000) : SWs (chan N c lo hi) (chanR (fun j => decide ((j : Int) < N + c)) ((N + c) % 32).toNat (N + c)) := by
 unfold chan chanR
 have hr : ((((N + c) % 32).toNat : Nat) : Int) = (N + c) % 32 := by omega
 refine (SWs.append .refl (SWs.map fun j hj => ?_)).append (.cons (.bsIv rfl h1 h2 hr.symm) (.cons (.bsIv rfl h1 h2 (Int.emod_one _)) .refl))
 rw [cellR_at]
 split
 ·exact .bTT (decide_eq_true (by omega))
 ·exact .refl
theorem chan_out {N c lo hi : Int} (h1 : 1 <= N + c) (h3 : lo <= N + c) (h4 : N + c <= hi) : SWs (chanS (fun j => decide ((j : Int) < N + c)) ((N + c) % 32).toNat (N + c)) (chan N (c + 1) (lo + 1) (hi + 1)) := by
 unfold chan chanS
 refine (SWs.append .refl (SWs.map fun j hj => ?_)).append (.cons (.ivBs (by omega) (by omega) (by omega)) (.cons (.ivBs (by omega) (by omega) (by omega)) .refl))
 have hj : j < 32 := by simpa using hj
 rw [cellS_at, cellR_at]
 split
 ·exact .ttB (decide_eq_true (by omega))
 ·split
  ·exact .ttB (decide_eq_true (by omega))
  ·refine .bool (decide_eq_decide.2 ?_)
   constructor <;> intro h <;> omega
theorem chan_back {N c lo hi : Int} (h1 : 1 <= N + c) (h3 : lo <= N + c) (h4 : N + c <= hi) : SWs (chanR (fun j => decide ((j : Int) < N + c)) ((N + c) % 32).toNat (N + c)) (chan N c lo hi) := by
 unfold chan chanR
 refine (SWs.append .refl (SWs.map fun j hj => ?_)).append (.cons (.ivBs (by omega) (by omega) (by omega)) (.cons (.ivBs (by omega) (by omega) (by omega)) .refl))
 rw [cellR_at]
 split
 ·exact .ttB (decide_eq_true (by omega))
 ·exact .refl
theorem chanR_free (s : Nat -> Bool) (r : Nat) (x : Int) (T : TypeId) : FreeBlk (.fix T (chanR s r x)) := by
 intro v hs w E σ σ' u hr
 simp only [chanR, List.mem_append, List.mem_cons, List.not_mem_nil, or_false, List.mem_map] at hs
 rcases hs with ((rfl | rfl | rfl) | ⟨j, _, rfl⟩) | (rfl | rfl | rfl | rfl)
 ·cases hr; constructor
 ·cases hr; constructor
 ·cases hr; constructor
 ·rw [cellR_at] at hr ⊢
  split at hr
  ·rw [if_pos (by assumption)]; cases hr; constructor
  ·rw [if_neg (by assumption)]; cases hr; constructor
 all_goals (cases hr; constructor <;> assumption)
theorem chanS_free (s : Nat -> Bool) (r : Nat) (x : Int) (T : TypeId) : FreeBlk (.fix T (chanS s r x)) := by
 intro v hs w E σ σ' u hr
 simp only [chanS, List.mem_append, List.mem_cons, List.not_mem_nil, or_false, List.mem_map] at hs
 rcases hs with ((rfl | rfl | rfl) | ⟨j, _, rfl⟩) | (rfl | rfl | rfl | rfl)
 ·cases hr; constructor
 ·cases hr; constructor
 ·cases hr; constructor
 ·rw [cellS_at, cellR_at] at hr ⊢
  split at hr
  ·rw [if_pos (by assumption)]; cases hr; constructor
  ·rw [if_neg (by assumption)]
   split at hr
   ·rw [if_pos (by assumption)]; cases hr; constructor
   ·rw [if_neg (by assumption)]; cases hr; constructor
 all_goals (cases hr; constructor <;> assumption)
theorem free_tup : FreeSV (.tup []) := fun w E σ σ' v hr => by
 cases hr with | tup hl _ => exact .tup hl (by simp)
theorem free_tt : FreeSV .tt := fun w E σ σ' v hr => by cases hr; constructor
theorem obs_spec {N c lo hi : Int} (h1 : 1 <= lo) (h2 : hi <= 100000) : OSpec Tryz.prog 74 [.ptr 0 0, .tt] [.fix 299 (chan N c lo hi)] fun s ho => s = .tup [] /\ ho = [.fix 299 (chan N (c + 1) (lo + 1) (hi + 1))] := by
 by_cases hN : lo <= N + c /\ N + c <= hi
 ·have hc := obs_gd (fun j => decide ((j : Int) < N + c)) (N + c) ((N + c) % 32).toNat (by omega)
  have a1 := chan_in (N := N) (c := c) (lo := lo) (hi := hi) (by omega) (by omega)
  have a2 := chan_out (N := N) (c := c) (by omega) hN.1 hN.2
  generalize (fun j : Nat => decide ((j : Int) < N + c)) = s at hc a1 a2
  generalize ((N + c) % 32).toNat = r at hc a1 a2
  have a3 := OSpec.of_gd hc (chanR_free s r (N + c) 299) (chanS_free s r (N + c) 299) free_tup
  exact OSpec.words a3 (BW.fix a1) (BW.fix a2) (chan_free _ _ _ _ _) (chan_free _ _ _ _ _)
 ·exact .never (by simpa using chan_free N c lo hi 299) fun w X σ hI => hN (chan_known hI)
theorem prd_spec {N c lo hi : Int} (h1 : 1 <= lo) (h2 : hi <= 100000) : OSpec Tryz.prog 144 [.ptr 0 0] [.fix 299 (chan N c lo hi)] fun s ho => s = .tt /\ ho = [.fix 299 (chan N c lo hi)] := by
 by_cases hN : lo <= N + c /\ N + c <= hi
 ·have hc := prd_gd (fun j => decide ((j : Int) < N + c)) (N + c) ((N + c) % 32).toNat (by omega)
  have a1 := chan_in (N := N) (c := c) (lo := lo) (hi := hi) (by omega) (by omega)
  have a2 := chan_back (N := N) (c := c) (by omega) hN.1 hN.2
  generalize (fun j : Nat => decide ((j : Int) < N + c)) = s at hc a1 a2
  generalize ((N + c) % 32).toNat = r at hc a1 a2
  have a3 := OSpec.of_gd hc (chanR_free s r (N + c) 299) (chanR_free s r (N + c) 299) free_tt
  exact OSpec.words a3 (BW.fix a1) (BW.fix a2) (chan_free _ _ _ _ _) (chan_free _ _ _ _ _)
 ·exact .never (by simpa using chan_free N c lo hi 299) fun w X σ hI => hN (chan_known hI)
theorem chanK_sound {cs : List SV} {k : Int -> Int -> Int -> Int -> Prop} (h : chanK cs k) : ∃ N c lo hi, 1 <= lo /\ hi <= 100000 /\ cs = chan N c lo hi /\ k N c lo hi := by
 obtain ⟨_, h⟩ := dropK_sound h
 split at h
 ·rename_i N c lo hi _ _
  obtain ⟨h1, h⟩ := bChk_sound h
  obtain ⟨h2, h⟩ := bChk_sound h
  rw [Go.Sx.leI_eq] at h1 h2
  exact ⟨N, c, lo, hi, of_decide_eq_true h1, of_decide_eq_true h2, h⟩
 ·exact h.elim
theorem arg3 {b : Nat} : argsK [b] [.ptr 0 0, .tt] [.ptr b 0, .tt] True := eqNK_self (eqNK_self (k := (SV.tt = SV.tt /\ True)) ⟨rfl, trivial⟩)
theorem obs_ok (l : List SV) (H : HW) (K : KV3) (h : obsH l H K) : CallL Tryz.prog 74 l H K := by
 unfold obsH at h
 split at h
 ·rename_i b
  rw [getH_eq] at h
  obtain ⟨blk, hb, h⟩ := nthK_sound h
  split at h
  ·rename_i T cs
   obtain ⟨hT, h5⟩ := bChk_sound h
   have hT := Nat.eq_of_beq_eq_true hT
   clear h
   subst hT
   obtain ⟨N, c, lo, hi, h1, h2, e, h6⟩ := chanK_sound h5
   clear h5
   subst e
   simp only [addI_eq] at h6
   have h := intF_sound (k := fun c' => intF (lo + 1) fun lo' => intF (hi + 1) fun hi' => setH H b (.fix 299 (chan N c' lo' hi')) fun H' => K (.tup []) H' [b]) h6
   have h := intF_sound (k := fun lo' => intF (hi + 1) fun hi' => setH H b (.fix 299 (chan N (c + 1) lo' hi')) fun H' => K (.tup []) H' [b]) h
   have h := intF_sound (k := fun hi' => setH H b (.fix 299 (chan N (c + 1) (lo + 1) hi')) fun H' => K (.tup []) H' [b]) h
   exact CallL.of_ospec (obs_spec h1 h2) (.refl _) arg3 hb h
  ·exact h.elim
 ·exact h.elim
theorem prd_ok (l : List SV) (H : HW) (K : KV3) (h : prdH l H K) : CallL Tryz.prog 144 l H K := by
 unfold prdH at h
 split at h
 ·rename_i b
  rw [getH_eq] at h
  obtain ⟨blk, hb, h⟩ := nthK_sound h
  split at h
  ·rename_i T cs
   obtain ⟨hT, h5⟩ := bChk_sound h
   have hT := Nat.eq_of_beq_eq_true hT
   clear h
   subst hT
   obtain ⟨N, c, lo, hi, h1, h2, e, h⟩ := chanK_sound h5
   clear h5
   subst e
   exact CallL.of_ospecR (prd_spec h1 h2) (.refl _) arg1 hb h
  ·exact h.elim
 ·exact h.elim
end Go.Proofs.YtbppedokdfmnoaaGreatDoor

namespace Go.Proofs.YtbppedokdfmnoaaGreatDoor
open Go.Sx
theorem cfg_ok {ls : List Int} {m : Int} {c : SV} (hc : Know (cfE (cfX ls 1 m)) c) (l : List SV) (H : HW) (K : KV3) (h : cfgH ls m c l H K) : CallL Tryz.prog 5 l H K := by
 unfold cfgH at h
 split at h
 ·rename_i b m'
  rw [getH_eq] at h
  obtain ⟨blk, hb, ⟨e1, e2⟩, h9⟩ := nthK_sound h
  clear h
  subst e1; subst e2
  exact CallL.of_ospec (gcfg_s ls 1 m' (by omega) (by omega)) hc arg2 hb h9
 ·exact h.elim
theorem next_ok {ls : List Int} {m : Int} (hm : m = 1 + nxt ls 0 2) (l : List SV) (H : HW) (K : KV3) (h : nextH ls m l H K) : CallL Tryz.prog 6 l H K := by
 unfold nextH at h
 split at h
 ·rename_i b n
  rw [getH_eq] at h
  obtain ⟨blk, hb, ⟨e1, e2⟩, h9⟩ := nthK_sound h
  clear h
  subst e1; subst e2
  rw [addI_eq] at h9
  have h9 := intF_sound (k := fun t => setH H b (chs ls 1) fun H' => K (.int .i64 t) H' [b]) h9
  have e : m + -1 = nxt ls 0 2 := by omega
  rw [e] at h9
  exact CallL.of_ospec (next_s ls 0 2 (by omega) (by omega) (by omega)) (.refl _) arg2 hb h9
 ·exact h.elim
theorem envR_ok {ls : List Int} {m : Int} {d : Dr} (hm : m = 1 + nxt ls 0 2) (hc : Know (cfE (cfX ls 1 m)) (cfS m d)) : EnvOK Tryz.prog (envR ls m d) where
 tab := tab_ok
 ft := ft_ok
 mt := mt_ok
 mixed := env_ok.mixed
 it := it_ok
 ps := env_ok.ps
 hs := fun f sp h => by
  have := assocD_mem h
  simp only [envR, hspecsR, hspecs, List.mem_cons, List.not_mem_nil, or_false, Prod.mk.injEq] at this
  rcases this with ⟨rfl, rfl⟩ | ⟨rfl, rfl⟩ | ⟨rfl, rfl⟩ | ⟨rfl, rfl⟩ | ⟨rfl, rfl⟩ | ⟨rfl, rfl⟩ | ⟨rfl, rfl⟩ | ⟨rfl, rfl⟩ | ⟨rfl, rfl⟩ | ⟨rfl, rfl⟩
  ·exact next_ok hm
  ·exact cfg_ok hc
  ·exact prd_ok
  ·exact obs_ok
  ·exact sane_ok
  ·exact clone_ok
  ·exact seq_ok
  ·exact check_ok
  ·exact grow_ok
  ·exact fmt_ok
theorem envQ_ok {ls : List Int} {m : Int} {d : Dr} (hm : m = 1 + nxt ls 0 2) (hc : Know (cfE (cfX ls 1 m)) (cfS m d)) : EnvOK Tryz.prog (envQ ls m d) where
 tab := tab_ok
 ft := ft_ok
 mt := mt_ok
 mixed := env_ok.mixed
 it := it_ok
 ps := env_ok.ps
 hs := fun f sp h => by
  have := assocD_mem h
  simp only [envQ, hspecsQ, hspecs, List.mem_cons, List.not_mem_nil, or_false, Prod.mk.injEq] at this
  rcases this with ⟨rfl, rfl⟩ | ⟨rfl, rfl⟩ | ⟨rfl, rfl⟩ | ⟨rfl, rfl⟩ | ⟨rfl, rfl⟩ | ⟨rfl, rfl⟩ | ⟨rfl, rfl⟩ | ⟨rfl, rfl⟩
  ·exact next_ok hm
  ·exact cfg_ok hc
  ·exact sane_ok
  ·exact clone_ok
  ·exact seq_ok
  ·exact check_ok
  ·exact grow_ok
  ·exact fmt_ok
end Go.Proofs.YtbppedokdfmnoaaGreatDoor

namespace Go.Sx
theorem BW.gapTo {T : TypeId} {z : Nat} {N lo hi N' lo' hi' : Int} {pre es pre' es' l : List (List SV)} (h : RWs (pre ++ es) l) (hl : l = pre' ++ es') (h1 : lo' <= N') (h2 : N' <= hi') (h3 : (pre'.length : Int) = N') :
  BW (.gap T z N lo hi pre es []) (.gap T z N' lo' hi' pre' es' []) := by
 refine BW.gap ?_ h1 h2 h3
 rw [List.append_nil, List.append_nil, <- hl]
 exact h
end Go.Sx
namespace Go.Proofs.YtbppedokdfmnoaaGreatDoor
open Go.Sx
theorem chan_next {N lo hi lo' hi' : Int} (h1 : lo' <= N + 1) (h2 : N + 1 <= hi') : SWs (chan N 1 lo hi) (chan (N + 1) 0 lo' hi') := by
 unfold chan
 refine (SWs.append .refl (SWs.map fun j hj => ?_)).append (.cons (.bs (by omega) (by omega) (by omega)) (.cons (.bs (by omega) (by omega) (by omega)) .refl))
 refine .bool (decide_eq_decide.2 ?_)
 constructor <;> intro h <;> omega
theorem chan_first : SWs [.int .i64 0, .int .i64 0, .int .i64 0, .tt, .ff, .ff, .ff, .ff, .ff, .ff, .ff, .ff, .ff, .ff, .ff, .ff, .ff, .ff, .ff, .ff, .ff, .ff, .ff, .ff, .ff, .ff, .ff, .ff, .ff, .ff, .ff, .ff, .ff, .ff, .ff, .int .i64 1, .int .i64 1, .ff, .ff] (chan 1 0 1 371) := by
 show SWs _ ([.int .i64 0, .int .i64 0, .int .i64 0, .bool (decide (((0 : Nat) : Int) < 1 + 0))] ++ (List.range 31).map (fun (j : Nat) => SV.bool (decide (((j + 1 : Nat) : Int) < 1 + 0))) ++ [.bs .i64 1 0 1 371, .bs .i64 1 0 1 371, .ff, .ff])
 have h : (List.range 31).map (fun _ => SV.ff) = [.ff, .ff, .ff, .ff, .ff, .ff, .ff, .ff, .ff, .ff, .ff, .ff, .ff, .ff, .ff, .ff, .ff, .ff, .ff, .ff, .ff, .ff, .ff, .ff, .ff, .ff, .ff, .ff, .ff, .ff, .ff] := rfl
 have a : SWs [.ff, .ff, .ff, .ff, .ff, .ff, .ff, .ff, .ff, .ff, .ff, .ff, .ff, .ff, .ff, .ff, .ff, .ff, .ff, .ff, .ff, .ff, .ff, .ff, .ff, .ff, .ff, .ff, .ff, .ff, .ff] ((List.range 31).map (fun (j : Nat) => SV.bool (decide (((j + 1 : Nat) : Int) < 1 + 0)))) := by
  rw [<- h]
  exact SWs.map fun j _ => .ffB (decide_eq_false (by omega))
 exact (SWs.append (.cons .refl (.cons .refl (.cons .refl (.cons (.ttB (by decide)) .nil)))) a).append (.cons (.intB (by decide) (by decide) (by decide)) (.cons (.intB (by decide) (by decide) (by decide)) .refl))
end Go.Proofs.YtbppedokdfmnoaaGreatDoor

namespace Go.Proofs.YtbppedokdfmnoaaGreatDoor
open Go.Sx
noncomputable def pk0 : List (List SV) := [[.int .i64 1, .int .i64 0, .int .i64 4096, .int .i64 0, .int .i64 (-1)]]
noncomputable def lf0 : List (List SV) := [[.int .i64 0, .int .i64 4096, .int .i64 3, .int .i64 0]]
noncomputable def od0 : List (List SV) := []
noncomputable def lg0 : List (List SV) := [[.int .i64 0, .int .i64 1, .int .i64 0, .int .i64 1, .int .i64 0, .int .i64 4096], [.int .i64 0, .int .i64 1, .int .i64 0, .int .i64 2, .int .i64 0, .int .i64 4096], [.int .i64 0, .int .i64 8, .int .i64 0, .int .i64 0, .int .i64 0, .int .i64 1], [.int .i64 0, .int .i64 5, .int .i64 0, .int .i64 0, .int .i64 1, .int .i64 0], [.int .i64 0, .int .i64 3, .int .i64 0, .int .i64 1, .int .i64 0, .int .i64 1], [.int .i64 0, .int .i64 4, .int .i64 0, .int .i64 1, .int .i64 0, .int .i64 0]]
end Go.Proofs.YtbppedokdfmnoaaGreatDoor

namespace Go.Proofs.YtbppedokdfmnoaaGreatDoor
open Go.Sx
def recsN (k : Nat) : List (List SV) := [[.int .i64 (k : Int), .int .i64 1, .int .i64 0, .int .i64 ((k + 2 : Nat) : Int), .int .i64 0, .int .i64 4096], [.int .i64 (k : Int), .int .i64 5, .int .i64 0, .int .i64 0, .int .i64 1, .int .i64 0],
 [.int .i64 (k : Int), .int .i64 3, .int .i64 0, .int .i64 ((k + 1 : Nat) : Int), .int .i64 0, .int .i64 1], [.int .i64 (k : Int), .int .i64 4, .int .i64 0, .int .i64 ((k + 1 : Nat) : Int), .int .i64 0, .int .i64 0]]
def logR : Nat -> Nat -> List (List SV)
 | 0, _ => []
 | c + 1, k => recsN k ++ logR c (k + 1)
noncomputable def logN (c : Nat) : List (List SV) := lg0 ++ logR c 1
theorem logR_succ (c k : Nat) : logR (c + 1) k = logR c k ++ recsN (k + c) := by
 induction c generalizing k with
 | zero => simp [logR]
 | succ c ih =>
  show recsN k ++ logR (c + 1) (k + 1) = (recsN k ++ logR c (k + 1)) ++ recsN (k + (c + 1))
  rw [ih (k + 1), List.append_assoc, show k + 1 + c = k + (c + 1) by omega]
theorem logN_succ (c : Nat) : logN (c + 1) = logN c ++ recsN (c + 1) := by
 unfold logN
 rw [logR_succ, List.append_assoc, Nat.add_comm 1 c]
theorem logR_len (c k : Nat) : (logR c k).length = 4 * c := by
 induction c generalizing k with
 | zero => rfl
 | succ c ih => simp [logR, recsN, ih]; omega
theorem logN_len (c : Nat) : (logN c).length = 4 * c + 6 := by
 unfold logN lg0
 simp [logR_len]
noncomputable def logA : List (List SV) := logN 371
noncomputable def logZ : List (List SV) := logA ++ [[.bs .i64 372 0 372 372, .int .i64 1, .int .i64 0, .bs .i64 372 2 374 374, .int .i64 0, .int .i64 4096]]
theorem logA_eq : logA = logN 370 ++ recsN 371 := logN_succ 370
noncomputable def cfgV (m : Int) (d : Dr) : SV := .agg [.int .i64 m, .iv .i64 d.an 1 1048575 1 0, .iv .i64 d.ad 2 1048576 1 0, .int .i64 0, .int .i64 0, .int .i64 0, .iv .i64 d.cp 1 4 1 0, .iv .i64 d.cb 4096 8096 1 0, .int .i64 1048576, .iv .i64 d.tr 1 4 1 0, .iv .i64 d.wi 1 64 1 0, .iv .i64 d.qu 256 5000 1 0, .int .i64 512, .int .i64 1099511627776, .rs 2 [[.int .i64 6000, .int .i64 100], [.int .i64 54000, .int .i64 50]]]
noncomputable def auditH (m : Int) (d : Dr) : HSp := fun l H K => match l with
 | [x, .sl b] => getH H b fun blk => (x = cfgV m d /\ blk = .row 90 6 logZ) /\ K (.tup [.int .i64 (-1), .int .i64 0]) H []
 | _ => False
noncomputable def hspecsZ (m : Int) (d : Dr) : List (FuncId × HSp) := (12, auditH m d) :: (144, prdH) :: (74, obsH) :: (14, constH [] .tt 457 pow10) :: hspecs
noncomputable def envZ (m : Int) (d : Dr) : Env := ⟨tab, ftab, mtab, pspecs, hspecsZ m d, itab, true⟩
end Go.Proofs.YtbppedokdfmnoaaGreatDoor
