/- Two Writers side by side. -/
import Derived.Test.YtimcbgcjnfdcaaaWritesW
import Derived.Test.YtimcbgcjnfdcaaaUnpW
import Derived.Test.YtimcbgcjnfdcaaaRegG
namespace Go.Proofs.Ytimcbgcjnfdcaaa
open Go.RowKit
set_option linter.unusedVariables false
set_option linter.unusedSimpArgs false
theorem WrS.base {w : World} {b b' g : Nat} {r : Option Nat} {l : List Bool} (h : WrS w b g r l) (hb : b' ≤ b) : WrS w b' g r l := by
  obtain ⟨v, h1, h2, h3, h4⟩ := h
  exact ⟨v, h1, by omega, own_base h3 hb, h4⟩
structure Two (b g d : Nat) (w : World) (r1 r2 : Option Nat) (l1 l2 : List Bool) : Prop where
  h1 : WrS w b g r1 l1
  h2 : WrS w b d r2 l2
  n1 : r1 ≠ some d
  n2 : r2 ≠ some g
  n3 : ∀ k, r2 = some k → r1 ≠ some k
  ne : g ≠ d
theorem Two.swap {b g d : Nat} {w : World} {r1 r2 : Option Nat} {l1 l2 : List Bool} (h : Two b g d w r1 r2 l1 l2) : Two b d g w r2 r1 l2 l1 :=
  ⟨h.h2, h.h1, h.n2, h.n1, fun k h1 h2 => h.n3 k h2 h1, fun e => h.ne e.symm⟩
theorem Two.below {b g d : Nat} {w w' : World} {r1 r2 : Option Nat} {l1 l2 : List Bool} (h : Two b g d w r1 r2 l1 l2) (hb : Below w.heap.size w w') : Two b g d w' r1 r2 l1 l2 :=
  ⟨h.h1.below hb, h.h2.below hb, h.n1, h.n2, h.n3, h.ne⟩
theorem Two.step {b g d : Nat} {w w' : World} {r1 r2 : Option Nat} {l1 l2 l1' : List Bool} (h : Two b g d w r1 r2 l1 l2) (hst : WStep b g r1 w l1' w') : ∃ r1', Two b g d w' r1' r2 l1' l2 ∧ (r1' = r1 ∨ ∃ k, r1' = some k ∧ w.heap.size ≤ k) := by
  have h2 := hst.other h.h2 (fun e => h.ne e.symm) h.n1 h.n2 h.n3
  obtain ⟨r1', hs, hc, hr⟩ := hst
  refine ⟨r1', ⟨hs, h2, ?_, h.n2, fun k hk he => ?_, h.ne⟩, hr⟩
  · rcases hr with rfl | ⟨k, rfl, hk⟩
    · exact h.n1
    · intro e; injection e with e; have := h.h2.lt.1; omega
  · rcases hr with rfl | ⟨j, rfl, hj⟩
    · exact h.n3 k hk he
    · injection he with he; have := (h.h2.lt.2.2 k hk).2; omega
/-- Beside them a block that neither touches. -/
structure Thr (b g d q : Nat) (O : Obj) (w : World) (r1 r2 : Option Nat) (l1 l2 : List Bool) : Prop extends Two b g d w r1 r2 l1 l2 where
  hq : w.heap[q]? = some O
  q1 : r1 ≠ some q
  q2 : r2 ≠ some q
  qg : q ≠ g
  qd : q ≠ d
theorem Thr.step {b g d q : Nat} {O : Obj} {w w' : World} {r1 r2 : Option Nat} {l1 l2 l1' : List Bool} (h : Thr b g d q O w r1 r2 l1 l2) (hst : WStep b g r1 w l1' w') : ∃ r1', Thr b g d q O w' r1' r2 l1' l2 := by
  obtain ⟨r1', ht, hr⟩ := h.toTwo.step hst
  have hql : q < w.heap.size := (Array.getElem?_eq_some_iff.1 h.hq).1
  obtain ⟨_, _, hc, _⟩ := hst
  refine ⟨r1', ⟨ht, (hc.block q hql h.qg (fun e => h.q1 e.symm)).trans h.hq, ?_, h.q2, h.qg, h.qd⟩⟩
  rcases hr with rfl | ⟨k, rfl, hk⟩
  · exact h.q1
  · intro e; injection e with e; omega
theorem Thr.swap {b g d q : Nat} {O : Obj} {w : World} {r1 r2 : Option Nat} {l1 l2 : List Bool} (h : Thr b g d q O w r1 r2 l1 l2) : Thr b d g q O w r2 r1 l2 l1 := ⟨h.toTwo.swap, h.hq, h.q2, h.q1, h.qd, h.qg⟩
end Go.Proofs.Ytimcbgcjnfdcaaa
