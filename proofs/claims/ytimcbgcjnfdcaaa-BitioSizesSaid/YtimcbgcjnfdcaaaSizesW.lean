/- The walk of the law BitioSizes. -/
import Derived.Test.YtimcbgcjnfdcaaaTopW
namespace Go.Proofs.Ytimcbgcjnfdcaaa
open Go.RowKit
set_option linter.unusedVariables false
set_option linter.unusedSimpArgs false
namespace bitioSizes
set_option maxRecDepth 100000 in
theorem walk (a0 : Int) (w : World) (w0 : (Lit.int .u64 a0).wf = true) :
    Calls Try.prog 5 #[.int .u64 a0] w fun e w' => e = .returned (.bool true) ∧ Below w.heap.size w w' := by
  have h0 := bounds_u64 w0
  obtain ⟨v, rfl⟩ := Int.eq_ofNat_of_zero_le h0.1
  have hv : v < 2 ^ 64 := by omega
  have HV := hide hv
  clear w0 h0 hv
  go_enter Try.func5, Try.ntmps5
  go_wp2_with fail
  refine (newwriter_any w).mono ?_
  rintro e w1 ⟨rfl, hs1, hb1⟩
  have hg1 : w.heap.size < w1.heap.size := hs1.lt.1
  have HS1 := hide hs1
  clear hs1
  go_wp2_with fail
  refine (newwriter_any w1).mono ?_
  rintro e w2 ⟨rfl, hs2, hb2⟩
  have HS2 := hide hs2
  have hg2 : w1.heap.size < w2.heap.size := hs2.lt.1
  have HS1' := hide (HS1.out.below hb2)
  have hbw := bl_trans hb1 hb2
  clear hs2
  by_cases h0 : v = 0
  · subst h0
    go_wp2
    go_ret
    exact ⟨rfl, hbw⟩
  have t0 : ((v : Int) == 0) = false := by rw [beq_eq_false_iff_ne]; omega
  have HG := hide (show wGamma v = some (gamB v) from if_neg h0)
  have HD := hide (show wDelta v = some (gamB (Lib.bitLen v) ++ lowB v (Lib.bitLen v - 1)) from if_neg h0)
  go_wp2_with fail
  refine (wgamma_any w.heap.size w.heap.size none [] v v w2 rfl HV.out HS1'.out (by simp) (by omega)).mono ?_
  rintro e w3 ⟨rfl, hst⟩
  rw [HG.out] at hst ⊢
  simp only [Option.getD_some, List.nil_append] at hst
  have HST := hide hst
  have HS2' := hide (hst.other HS2.out (by omega) (by simp) (by simp) (by simp))
  have hsz : w2.heap.size ≤ w3.heap.size := by obtain ⟨_, _, hc, _⟩ := hst; exact hc.size
  have hbw3 : Below w.heap.size w w3 := hbw.trans (hst.below HS1'.out (by omega))
  clear hst
  rw [show cod (some (gamB v)) = 0 from rfl]
  go_wp2_with fail
  refine (wdelta_any w1.heap.size w1.heap.size none [] v v w3 rfl HV.out HS2'.out (by simp) (by omega)).mono ?_
  rintro e w4 ⟨rfl, hst⟩
  rw [HD.out] at hst ⊢
  simp only [Option.getD_some, List.nil_append] at hst
  have hbw4 : Below w.heap.size w w4 := hbw3.trans ((hst.below HS2'.out (by omega)).mono (by omega))
  obtain ⟨r1, hs1, hc1, hr1⟩ := HST.out
  have hk1 : ∀ k, r1 = some k → w2.heap.size ≤ k := fun k hk => by
    rcases hr1 with h | ⟨j, h, hj⟩
    · rw [h] at hk; cases hk
    · rw [h] at hk; injection hk with hk; omega
  have HS4 := hide (hst.other hs1 (by omega) (by simp) (fun e => by have := hk1 _ e; omega) (by simp))
  obtain ⟨r2, hs2, _, _⟩ := hst
  have HS5 := hide hs2
  have hbs4 := hbw4.size
  clear hs1 hc1 hr1 hk1 hs2 hbw hbw3
  rw [show cod (some (gamB (Lib.bitLen v) ++ lowB v (Lib.bitLen v - 1))) = 0 from rfl]
  have hb0 : Lib.bitLen v = Lib.bitLen (v / 2) + 1 := bl_pos v h0 HV.out
  have hb64 := bl_64 v HV.out
  obtain ⟨b, hb⟩ : ∃ b, b = Lib.bitLen v - 1 := ⟨_, rfl⟩
  have hbv : Lib.bitLen v = b + 1 := by omega
  have hlg : (gamB v).length = 2 * b + 1 := by simp [gamB, lowB_length]; omega
  have hc0 : Lib.bitLen (b + 1) = Lib.bitLen ((b + 1) / 2) + 1 := bl_pos _ (by omega) (by omega)
  have hc64 := bl_64 (b + 1) (by omega)
  obtain ⟨c, hc⟩ : ∃ c, c = Lib.bitLen (b + 1) - 1 := ⟨_, rfl⟩
  have hld : (gamB (Lib.bitLen v) ++ lowB v (Lib.bitLen v - 1)).length = b + 2 * c + 1 := by
    rw [hbv]; simp [gamB, lowB_length]; omega
  have HLG := hide hlg
  have HLD := hide hld
  have HB := hide hb
  have HC := hide hc
  have hb64' : b ≤ 63 := by omega
  have hc64' : c ≤ 63 := by omega
  clear hlg hld hb hc hc0 hb0 hbv
  go_wp2_with fail
  refine (top_any v v w4 rfl HV.out h0).mono ?_
  rintro e w' ⟨rfl, rfl⟩
  rw [← HB.out]
  go_wp2_with fail
  refine (wlen_any w.heap.size w.heap.size r1 _ w4 HS4.out (by rw [HLG.out]; omega)).mono ?_
  rintro e w' ⟨rfl, rfl⟩
  rw [HLG.out]
  have e1 : ((2 * b + 1 : Nat) : Int) = 2 * (b : Int) + 1 := by omega
  rw [e1]
  clear e1
  go_wp2_with fail
  refine (wlen_any w1.heap.size w1.heap.size r2 _ w4 HS5.out (by rw [HLD.out]; omega)).mono ?_
  rintro e w' ⟨rfl, rfl⟩
  rw [HLD.out]
  have e1 : ((b + 2 * c + 1 : Nat) : Int) = (b : Int) + 2 * (c : Int) + 1 := by omega
  rw [e1]
  clear e1
  go_wp2_with fail
  refine (top_any ((b : Int) + 1) (b + 1) w4 (by omega) (by omega) (by omega)).mono ?_
  rintro e w' ⟨rfl, rfl⟩
  rw [← HC.out]
  go_wp2_with fail
  refine (awake_any _).mono ?_
  rintro e w6 ⟨rfl, hb6⟩
  go_wp2_with fail
  go_ret
  exact ⟨rfl, bl_trans hbw4 hb6⟩
end bitioSizes
end Go.Proofs.Ytimcbgcjnfdcaaa
