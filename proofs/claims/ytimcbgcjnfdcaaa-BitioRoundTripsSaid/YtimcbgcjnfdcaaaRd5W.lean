/- NewReader, the law's read, Seek. -/
import Derived.Test.YtimcbgcjnfdcaaaRd4W
import Derived.Test.YtimcbgcjnfdcaaaWritesW
namespace Go.Proofs.Ytimcbgcjnfdcaaa
open Go.RowKit
set_option linter.unusedVariables false
set_option linter.unusedSimpArgs false
theorem RStep.alloc {base g : Nat} {L : List Bool} {w w' : World} {pos : Nat} {o : Obj} (h : RStep base g L (w.alloc o) pos w') (hg : g < w.heap.size) : RdS w' base g L pos ∧ w.heap.size ≤ w'.heap.size ∧ w'.os = w.os ∧ w'.tape = w.tape ∧ w'.output = w.output ∧ ∀ k, k < w.heap.size → k ≠ g → w'.heap[k]? = w.heap[k]? :=
  ⟨h.1, by rw [h.2.1]; simp, h.2.2.1, h.2.2.2.1, h.2.2.2.2.1, fun k hk hne => (h.2.2.2.2.2 k hne).trans (Below.heap_alloc w o k hk)⟩
/-- Behind a call of a Reader: only g turned, and there is more memory. -/
def RGo (base g : Nat) (L : List Bool) (w : World) (pos : Nat) (w' : World) : Prop := RdS w' base g L pos ∧ w.heap.size ≤ w'.heap.size ∧ w'.os = w.os ∧ w'.tape = w.tape ∧ w'.output = w.output ∧ ∀ k, k < w.heap.size → k ≠ g → w'.heap[k]? = w.heap[k]?
theorem RGo.below {base g : Nat} {L : List Bool} {w w' : World} {pos : Nat} (h : RGo base g L w pos w') (hg : base ≤ g) (hs : base ≤ w.heap.size) : Below base w w' :=
  ⟨h.2.2.1, h.2.2.2.1, h.2.2.2.2.1, h.2.1, fun k hk => h.2.2.2.2.2 k (by omega) (by omega)⟩
theorem RStep.go {base g : Nat} {L : List Bool} {w w' : World} {pos : Nat} (h : RStep base g L w pos w') : RGo base g L w pos w' := ⟨h.1, by rw [h.2.1]; exact Nat.le_refl _, h.2.2.1, h.2.2.2.1, h.2.2.2.2.1, fun k _ hne => h.2.2.2.2.2 k hne⟩
set_option maxRecDepth 100000 in
theorem lread_any (base g : Nat) (L : List Bool) (pos : Nat) (k v n : Int) (w : World) (hs : RdS w base g L pos) :
    Calls Try.prog 31 #[.pointer (some ⟨g, 0, none⟩), .agg #[.int .i64 k, .int .u64 v, .int .i64 n]] w fun e w' => e = .returned (tup2 (readM L pos k n)) ∧ RGo base g L w (readM L pos k n).2.1 w' := by
  have HS := hide (hs.below (bl_alloc (bl_refl w) (.cells #[.int .i64 k, .int .u64 v, .int .i64 n] 44)))
  have hgl := hs.lt
  clear hs
  go_enter Try.func31, Try.ntmps31
  by_cases h0 : k = 0
  · subst h0
    rw [show readM L pos 0 n = bitsM L pos n from rfl]
    go_wp2_with fail
    refine (rbits_any base g L pos n _ HS.out).mono ?_
    rintro e w2 ⟨rfl, hst⟩
    have HST := hide (hst.alloc hgl)
    clear hst
    obtain ⟨⟨r1, r2, r3⟩, hR⟩ : ∃ R, R = bitsM L pos n := ⟨_, rfl⟩
    rw [← hR] at ⊢
    have HR := hide hR
    clear hR
    unfold tup2
    simp only []
    go_wp2
    go_ret2
    exact ⟨by rw [← HR.out]; rfl, HST.out⟩
  have t0 : (k == 0) = false := by rw [beq_eq_false_iff_ne]; exact h0
  by_cases h1 : k = 1
  · subst h1
    rw [show readM L pos 1 n = unaryM L pos from rfl]
    go_wp2_with fail
    refine (runary_any base g L pos _ HS.out).mono ?_
    rintro e w2 ⟨rfl, hst⟩
    have HST := hide (hst.alloc hgl)
    have hr : (unaryM L pos).1 ≤ 4096 := by
      have := (zr_le 4096 (L.drop pos) 0).1
      unfold unaryM
      split
      · have e : zr 4096 (L.drop pos) 0 = zerosM L pos 4096 := rfl
        rw [e] at this; show (zerosM L pos 4096).1 ≤ _; omega
      · exact Nat.zero_le _
    clear hst
    obtain ⟨⟨r1, r2, r3⟩, hR⟩ : ∃ R, R = unaryM L pos := ⟨_, rfl⟩
    rw [← hR] at hr ⊢
    have HR := hide hR
    clear hR
    simp only [] at hr ⊢
    go_wp2
    go_ret2
    exact ⟨by rw [← HR.out]; rfl, HST.out⟩
  have t1 : (k == 1) = false := by rw [beq_eq_false_iff_ne]; exact h1
  by_cases h2 : k = 2
  · subst h2
    rw [show readM L pos 2 n = gammaM L pos from rfl]
    go_wp2_with fail
    refine (rgamma_any base g L pos _ HS.out).mono ?_
    rintro e w2 ⟨rfl, hst⟩
    have HST := hide (hst.alloc hgl)
    clear hst
    obtain ⟨⟨r1, r2, r3⟩, hR⟩ : ∃ R, R = gammaM L pos := ⟨_, rfl⟩
    rw [← hR] at ⊢
    have HR := hide hR
    clear hR
    unfold tup2
    simp only []
    go_wp2
    go_ret2
    exact ⟨by rw [← HR.out]; rfl, HST.out⟩
  have t2 : (k == 2) = false := by rw [beq_eq_false_iff_ne]; exact h2
  rw [show readM L pos k n = deltaM L pos by unfold readM; rw [if_neg h0, if_neg h1, if_neg h2]]
  clear h0 h1 h2
  go_wp2_with fail
  refine (rdelta_any base g L pos _ HS.out).mono ?_
  rintro e w2 ⟨rfl, hst⟩
  have HST := hide (hst.alloc hgl)
  clear hst
  obtain ⟨⟨r1, r2, r3⟩, hR⟩ : ∃ R, R = deltaM L pos := ⟨_, rfl⟩
  rw [← hR] at ⊢
  have HR := hide hR
  clear hR
  unfold tup2
  simp only []
  go_wp2
  go_ret2
  exact ⟨by rw [← HR.out]; rfl, HST.out⟩
end Go.Proofs.Ytimcbgcjnfdcaaa
