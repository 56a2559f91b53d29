/- The walk of the law BitioGrows. -/
import Derived.Test.YtimcbgcjnfdcaaaAwW
namespace Go.Proofs.Ytimcbgcjnfdcaaa
open Go.RowKit
set_option linter.unusedVariables false
set_option linter.unusedSimpArgs false
namespace bitioGrows
set_option maxRecDepth 100000 in
theorem walk (a0 a1 : Int) (w : World) (w0 : (Lit.int .u64 a0).wf = true) (w1 : (Lit.int .u64 a1).wf = true) :
    Calls Try.prog 4 #[.int .u64 a0, .int .u64 a1] w fun e w' => e = .returned (.bool true) ∧ Below w.heap.size w w' := by
  have h0 := bounds_u64 w0
  have h1 := bounds_u64 w1
  obtain ⟨v, rfl⟩ := Int.eq_ofNat_of_zero_le h0.1
  obtain ⟨x, rfl⟩ := Int.eq_ofNat_of_zero_le h1.1
  have hv : v < 2 ^ 64 := by omega
  have hx : x < 2 ^ 64 := by omega
  have HV := hide hv
  have HX := hide hx
  clear w0 w1 h0 h1 hv hx
  go_enter Try.func4, Try.ntmps4
  go_wp2_with fail
  refine (putuv_any none 0 0 _ [] v w rfl HV.out rfl (by decide) (Rd.nil _ _)).mono ?_
  rintro e w1 ⟨va, rfl, hown, hb1⟩
  obtain ⟨_, a, c, rfl, _, hrd, _⟩ := own_form hown
  have HA := hide hrd
  clear hown hrd
  obtain ⟨n, hn⟩ : ∃ n, n = 0 + (uv v).length := ⟨_, rfl⟩
  rw [← hn]
  have HN1 := hide hn
  clear hn
  go_wp2_with fail
  refine (putuv_any none 0 0 _ [] x w1 rfl HX.out rfl (by decide) (Rd.nil _ _)).mono ?_
  rintro e w2 ⟨vb, rfl, hown, hb2⟩
  obtain ⟨_, b, d, rfl, _, hrd, _⟩ := own_form hown
  have HRB := hide hrd
  have HRA := hide (HA.out.below hb2)
  clear hown hrd
  obtain ⟨m, hm⟩ : ∃ m, m = 0 + (uv x).length := ⟨_, rfl⟩
  have hn := HN1.out
  have hn1 : 1 ≤ n ∧ n ≤ 10 := by rw [hn, Nat.zero_add]; exact uvF_length 9 v
  have hle : v ≤ x → n ≤ m := fun h => by rw [hn, hm, Nat.zero_add, Nat.zero_add]; exact uvF_mono 9 v x h
  have heq : (uv v == uv x) = ((v : Int) == x) := by
    rw [Bool.eq_iff_iff, beq_iff_eq, beq_iff_eq, uv_inj v x HV.out HX.out]; omega
  rw [← hm]
  have HN := hide (And.intro hn hm)
  have HEQ := hide heq
  clear hn hm heq
  have g1 : (1 : Int) ≤ n := by omega
  have g2 : (n : Int) ≤ 10 := by omega
  have hb := bl_trans hb1 hb2
  clear hn1 hb1 hb2
  by_cases h : (x : Int) < v
  all_goals
    try have hnm : (n : Int) ≤ m := by have := hle (by omega); omega
    clear hle
    go_wp2_with fail
    refine (same_any a b n _ m _ (uv v) (uv x) _ (by rw [HN.out.1, Nat.zero_add]) (by rw [HN.out.2, Nat.zero_add]) HRA.out HRB.out).mono ?_
    rintro e w3 ⟨rfl, rfl⟩
    rw [HEQ.out]
    go_wp2_with fail
    refine (awake_any _).mono ?_
    rintro e w3 ⟨rfl, hb3⟩
    go_wp2_with fail
    go_ret
    exact ⟨rfl, bl_trans hb hb3⟩
end bitioGrows
end Go.Proofs.Ytimcbgcjnfdcaaa
