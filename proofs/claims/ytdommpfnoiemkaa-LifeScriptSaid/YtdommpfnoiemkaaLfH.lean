/- Chapter 18: calls on tables that agree. -/
import Derived.Test.YtdommpfnoiemkaaLfG
namespace Go.Proofs.Ytdommpfnoiemkaa
open Go.Sx
set_option linter.unusedSimpArgs false
set_option linter.unusedVariables false
abbrev lgR (R : R3) : Hp := [lgT 1 2 3 4 (cel R.P R.r), lgP R.P, lgO (ordO R.P R.D 0), lgO (ordO R.P R.D 1), lgO (ordO R.P R.D 2)]
section
variable {n m : Nat} {R : R3}
def fIn (f : Int) : Prop := fOk f ∨ f = -1 ∨ f = 32
theorem _root_.Go.Sx.GSpec.mono' {P : Program} {f : FuncId} {args : List SV} {hin : Hp} {Q Q' : SV → Hp → Prop} (hs : GSpec P f args hin Q) (h : ∀ s ho, Q s ho → Q' s ho) : GSpec P f args hin Q' :=
  ⟨⟨fun w X σ vs hI hr => (hs.ok.ok w X σ vs hI hr).mono fun v w' ⟨s, ho, σ', hR, a, b, c⟩ => ⟨s, ho, σ', h s ho hR, a, b, c⟩⟩⟩
theorem acceptR_s (h : IR n m R) (hn : n ≤ 200) (hm : m ≤ 1000) (f l : Int) (hf : fIn f) :
    GSpec Try.prog 66 [.ptr 0 0, .int .i64 f, .int .i64 l] (lgR R) fun r ho => (aOk f l ∧ r = .tup [.int .i64 ((R.P.length + 1 : Nat) : Int), .int .i64 0] ∧ ho = [lgT 5 2 3 4 (cel (R.P ++ [(f, l, 1, 0)]) R.r), .dead, lgO (ordO (R.P ++ [(f, l, 1, 0)]) R.D 0), lgO (ordO (R.P ++ [(f, l, 1, 0)]) R.D 1), lgO (ordO (R.P ++ [(f, l, 1, 0)]) R.D 2), lgP (R.P ++ [(f, l, 1, 0)])]) ∨
      (¬ aOk f l ∧ r = .tup [.int .i64 0, .int .i64 1] ∧ ho = lgR R ++ [.dead]) :=
  (accept3_s (toL R) (by have := h.pl; show R.P.length ≤ 900; omega) (h.cel hn hm) f l hf).mono' fun s ho hq => by
    rcases hq with ⟨a, b, c⟩ | ⟨a, b, c⟩
    · obtain ⟨_, e1, e2⟩ := ir_acc h a
      refine .inl ⟨a, b, ?_⟩
      rw [c, e2, e2, e2, ← e1]; rfl
    · exact .inr ⟨a, b, c⟩
theorem refuseR_s (h : IR n m R) (hn : n ≤ 200) (hm : m ≤ 1000) (f : Int) (hf : fIn f) :
    GSpec Try.prog 27 [.ptr 0 0, .int .i64 f] (lgR R) fun r ho => r = .int .i64 (fE f) ∧ ho = lgR ⟨R.P, R.D, upR R.r f⟩ :=
  (refuse3_s (toL R) f (h.cel hn hm) hf).mono' fun s ho ⟨a, c⟩ => ⟨a, by
    rw [c]
    show [lgT 1 2 3 4 (upC (cel R.P R.r) f 3 1), _, _, _, _] = _
    rw [(ir_ref h hf).2]; rfl⟩
theorem sendR_s (h : IR n m R) (hn : n ≤ 200) (x : Int) :
    GSpec Try.prog 68 [.ptr 0 0, .int .i64 x] (lgR R) fun r ho => r = .int .i64 (sndE R.P x) ∧ ho = lgR ⟨sndP R.P x, R.D, R.r⟩ :=
  (send3_s (toL R) (by have := h.pl; show R.P.length ≤ 1000; omega) x).mono' fun s ho ⟨a, c⟩ => ⟨a, by
    obtain ⟨_, e1, e2⟩ := ir_snd h x
    rw [c]
    show [lgT 1 2 3 4 (cel R.P R.r), lgP (sndP R.P x), lgO (ordO R.P R.D 0), lgO (ordO R.P R.D 1), lgO (ordO R.P R.D 2)] = [lgT 1 2 3 4 (cel (sndP R.P x) R.r), lgP (sndP R.P x), lgO (ordO (sndP R.P x) R.D 0), lgO (ordO (sndP R.P x) R.D 1), lgO (ordO (sndP R.P x) R.D 2)]
    rw [e1, e2, e2, e2]⟩
theorem dropR_s (h : IR n m R) (hn : n ≤ 200) (hm : m ≤ 1000) (x w : Int) :
    GSpec Try.prog 72 [.ptr 0 0, .int .i64 x, .int .i64 w] (lgR R) fun r ho => r = .int .i64 (drpE R.P x w) ∧ ho = lgR ⟨drpP R.P x w, R.D, R.r⟩ :=
  (drop3_s (toL R) (by have := h.pl; show R.P.length ≤ 1000; omega) h.fl (h.cel hn hm) x w).mono' fun s ho ⟨a, c⟩ => ⟨a, by
    obtain ⟨_, e1, e2⟩ := ir_drp h x w
    rw [c]
    show [lgT 1 2 3 4 (drpC R.P (cel R.P R.r) x w), lgP (drpP R.P x w), lgO (ordO R.P R.D 0), lgO (ordO R.P R.D 1), lgO (ordO R.P R.D 2)] = [lgT 1 2 3 4 (cel (drpP R.P x w) R.r), lgP (drpP R.P x w), lgO (ordO (drpP R.P x w) R.D 0), lgO (ordO (drpP R.P x w) R.D 1), lgO (ordO (drpP R.P x w) R.D 2)]
    rw [e1, e2, e2, e2]⟩
/-- What a delivery leaves. -/
def dlP (R : R3) (x : Int) : List Pk := R.P.set (x.toNat - 1) (putS (gp R.P (x.toNat - 1)) 3)
theorem deliverR_s (h : IR n m R) (hn : n ≤ 200) (hm : m ≤ 1000) (x : Int) :
    GSpec Try.prog 70 [.ptr 0 0, .int .i64 x] (lgR R) fun r ho =>
      (rdOk R x ∧ r = .int .i64 0 ∧ (ho = [lgT 1 5 3 4 (cel (dlP R x) R.r), lgP (dlP R x), .dead, lgO (ordO (dlP R x) (R.D ++ [x]) 1), lgO (ordO (dlP R x) (R.D ++ [x]) 2), lgO (ordO (dlP R x) (R.D ++ [x]) 0)] ∨
        ho = [lgT 1 2 5 4 (cel (dlP R x) R.r), lgP (dlP R x), lgO (ordO (dlP R x) (R.D ++ [x]) 0), .dead, lgO (ordO (dlP R x) (R.D ++ [x]) 2), lgO (ordO (dlP R x) (R.D ++ [x]) 1)] ∨
        ho = [lgT 1 2 3 5 (cel (dlP R x) R.r), lgP (dlP R x), lgO (ordO (dlP R x) (R.D ++ [x]) 0), lgO (ordO (dlP R x) (R.D ++ [x]) 1), .dead, lgO (ordO (dlP R x) (R.D ++ [x]) 2)])) ∨
      (¬ rdOk R x ∧ r = .int .i64 (rdE R x) ∧ ho = lgR R ++ [.dead]) :=
  (deliver3_s (toL R) (by have := h.pl; show R.P.length ≤ 900; omega) h.fl h.ln (h.cel hn hm) (by have := ord_le R.P R.D 0; have := h.dl; show (ordO _ _ _).length ≤ 900; omega) (by have := ord_le R.P R.D 1; have := h.dl; show (ordO _ _ _).length ≤ 900; omega) (by have := ord_le R.P R.D 2; have := h.dl; show (ordO _ _ _).length ≤ 900; omega) x).mono' fun s ho hq => by
    rcases hq with ⟨a, b, c⟩ | ⟨a, b, c⟩
    · have ad := (dOk_iff h x).1 a
      obtain ⟨_, e1, e2⟩ := ir_del h ad
      refine .inl ⟨ad, b, ?_⟩
      rw [e1] at c
      have e3 : ∀ k, ordO (dlP R x) (R.D ++ [x]) k = if (gp R.P (x.toNat - 1)).1 = k then ordO R.P R.D k ++ [x] else ordO R.P R.D k := e2
      rcases c with ⟨g, c⟩ | ⟨g, c⟩ | ⟨g, c⟩
      · have g : (gp R.P (x.toNat - 1)).1 = 0 := g
        refine .inl ?_
        rw [c, e3, e3, e3, g]; rfl
      · have g : (gp R.P (x.toNat - 1)).1 = 1 := g
        refine .inr (.inl ?_)
        rw [c, e3, e3, e3, g]; rfl
      · have g : (gp R.P (x.toNat - 1)).1 = 2 := g
        refine .inr (.inr ?_)
        rw [c, e3, e3, e3, g]; rfl
    · exact .inr ⟨fun q => a ((dOk_iff h x).2 q), b, c⟩
theorem rsendR_s (h : IR n m R) (hn : n ≤ 200) (x : Int) :
    GSpec Try.prog 69 [.ptr 0 0, .int .i64 x] (rgH R) fun r ho => r = .int .i64 (sndE R.P x) ∧ ho = rgH ⟨sndP R.P x, R.D, R.r⟩ := rsend3_s R (by have := h.pl; omega) h.st x
theorem rdropR_s (h : IR n m R) (hn : n ≤ 200) (x w : Int) :
    GSpec Try.prog 73 [.ptr 0 0, .int .i64 x, .int .i64 w] (rgH R) fun r ho => r = .int .i64 (drpE R.P x w) ∧ ho = rgH ⟨drpP R.P x w, R.D, R.r⟩ := rdrop3_s R (by have := h.pl; omega) h.st x w
theorem raccR_s (h : IR n m R) (hn : n ≤ 200) (f l : Int) (hf : fIn f) :
    GSpec Try.prog 67 [.ptr 0 0, .int .i64 f, .int .i64 l] (rgH R) fun r ho => (aOk f l ∧ r = .tup [.int .i64 ((R.P.length + 1 : Nat) : Int), .int .i64 0] ∧ ho = [rgT 3 2 R.r, .dead, lgO R.D, rgP (R.P ++ [(f, l, 1, 0)])]) ∨
      (¬ aOk f l ∧ r = .tup [.int .i64 0, .int .i64 1] ∧ ho = rgH R ++ [.dead]) := raccept3_s R (by have := h.pl; omega) f l hf
theorem rdelR_s (h : IR n m R) (hn : n ≤ 200) (x : Int) :
    GSpec Try.prog 71 [.ptr 0 0, .int .i64 x] (rgH R) fun r ho => (rdOk R x ∧ r = .int .i64 0 ∧ ho = [rgT 1 3 R.r, rgP (dlP R x), .dead, lgO (R.D ++ [x])]) ∨
      (¬ rdOk R x ∧ r = .int .i64 (rdE R x) ∧ ho = rgH R ++ [.dead]) := rdeliver3_s R (by have := h.pl; omega) h.st (by have := h.dl; omega) h.dok x
theorem rrefR_s (h : IR n m R) (hm : m ≤ 1000) (f : Int) (hf : fIn f) :
    GSpec Try.prog 28 [.ptr 0 0, .int .i64 f] (rgH R) fun r ho => r = .int .i64 (fE f) ∧ ho = rgH ⟨R.P, R.D, upR R.r f⟩ := rrefuse3_s R f (fun i => ⟨(h.rr i).1, by have := (h.rr i).2; omega⟩) hf
end
end Go.Proofs.Ytdommpfnoiemkaa
