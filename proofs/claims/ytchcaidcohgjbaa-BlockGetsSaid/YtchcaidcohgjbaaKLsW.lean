/- The walk of the law BlockLeast. -/
import Derived.Test.YtchcaidcohgjbaaKPkW
namespace Go.Proofs.Ytchcaidcohgjbaa
open Go.RowKit
set_option linter.unusedVariables false
set_option linter.unusedSimpArgs false
theorem costM_in (l : List Int) (k : Nat) (h0 : chkV l = 0) (hk : k ≤ 31) : costM l (k : Int) = (costF (natsOf l) k, 0) := by
  unfold costM
  rw [if_neg (by simp [h0]), if_neg (by omega), Int.toNat_natCast]
namespace blockLeast
set_option maxHeartbeats 1000000 in
set_option maxRecDepth 100000 in
theorem walk (a : Option Addr) (n cap : Nat) (z : List Int) (w : World) (w0 : IsRow .i64 w a n cap z) :
    Calls Try.prog 6 #[.slice a n cap] w fun e w' => e = .returned (.bool true) ∧ Below w.heap.size w w' := by
  obtain ⟨l, hl, hc, hm, hz⟩ := w0.ints
  have HI := hide hl
  clear hl hz w0
  by_cases h0 : chkV l = 0
  case neg =>
    obtain ⟨c, hcc⟩ : ∃ c, c = chkV l := ⟨_, rfl⟩
    have hc0 : (((c : Nat) : Int) != 0) = true := by rw [bne_iff_ne]; omega
    have HC := hide hcc
    clear hcc h0
    go_enter Try.func6, Try.ntmps6
    go_wp2_with fail
    refine (rcheck_any a n cap l w HI.out).mono ?_
    rintro e w' ⟨rfl, rfl⟩
    rw [← HC.out]
    go_wp2
    go_ret
    exact ⟨rfl, bl_refl _⟩
  have H0 := hide h0
  have HW := hide (show widthM l = bestM (natsOf l) from if_pos h0)
  obtain ⟨b, hb⟩ : ∃ b, b = bestM (natsOf l) := ⟨_, rfl⟩
  have hb31 : b ≤ 31 := by rw [hb]; exact bestM_lt _
  have HCB := hide (costM_in l b h0 hb31)
  obtain ⟨c, hcc⟩ : ∃ c, c = costF (natsOf l) b := ⟨_, rfl⟩
  rw [← hb] at HW
  rw [← hcc] at HCB
  have HP := hide (show (packM (natsOf l)).length = c by rw [hcc, hb]; rfl)
  have HLE := hide (fun (k : Nat) (hk : k ≤ 31) => show c ≤ costF (natsOf l) k by rw [← HP.out]; exact packM_le (natsOf l) k hk)
  have HLS := hide (fun (k : Nat) (hk : k ≤ 31) (he : costF (natsOf l) k = c) => show b ≤ k by rw [hb]; exact bestM_least (natsOf l) k hk (by rw [HP.out]; exact he))
  clear h0 hb hcc
  go_enter Try.func6, Try.ntmps6
  go_wp2_with fail
  refine (rcheck_any a n cap l w HI.out).mono ?_
  rintro e w' ⟨rfl, rfl⟩
  rw [H0.out]
  go_wp2_with fail
  refine (width_any a n cap l w HI.out).mono ?_
  rintro e w1 ⟨rfl, hb1⟩
  rw [HW.out]
  have HB1 := hide hb1
  clear hb1
  go_wp2_with fail
  refine (costs_any a n cap l _ w1 (HI.out.below HB1.out)).mono ?_
  rintro e w' ⟨rfl, rfl⟩
  rw [HCB.out]
  go_wp2_with fail
  refine (pack_any a n cap l w1 (HI.out.below HB1.out)).mono ?_
  rintro e w2 ⟨v2, rfl, -, hgood, hb2⟩
  have ho := hgood H0.out
  rw [HP.out] at ho
  rw [H0.out]
  obtain ⟨y1, A1, c1, rfl, y2, r1, y4, y5⟩ := own_form ho
  have HB2 := hide (bl_trans HB1.out hb2)
  clear y1 y2 r1 y4 y5 ho hgood hb2
  go_wp2_with fail
  go_loopw [8] (fun kv wr => ∃ k : Nat, kv = .int .i64 (k : Int) ∧ k ≤ 32 ∧ w2 = wr) (fun kv _ => 32 - (intOf kv).toNat)
  case atStart => exact ⟨0, rfl, by omega, rfl⟩
  case round =>
    obtain ⟨k, rfl, hk, rfl⟩ := hrel
    by_cases hlt : k ≤ 31
    · have hk31 : (k : Int) ≤ 31 := by omega
      have HCK := hide (costM_in l k H0.out hlt)
      have hle := HLE.out k hlt
      have hls := HLS.out k hlt
      obtain ⟨d, hd⟩ : ∃ d, d = costF (natsOf l) k := ⟨_, rfl⟩
      rw [← hd] at HCK hle hls
      clear hd
      have t1 : ¬ (d : Int) < (c : Int) := by omega
      go_wp2_with fail
      refine (costs_any a n cap l _ w2 (HI.out.below HB2.out)).mono ?_
      rintro e w' ⟨rfl, rfl⟩
      rw [HCK.out]
      by_cases he : d = c
      · have hbk := hls he
        have t2 : ((d : Int) == (c : Int)) = true := by rw [beq_iff_eq]; omega
        have t3 : ¬ (k : Int) < (b : Int) := by omega
        clear hle hls he
        go_wp2
        go_roundw
        case rel => exact ⟨k + 1, by go_num, by omega, trivial⟩
        case measure => simp [intOf]; omega
      · have t2 : ((d : Int) == (c : Int)) = false := by rw [beq_eq_false_iff_ne]; omega
        clear hle hls he
        go_wp2
        go_roundw
        case rel => exact ⟨k + 1, by go_num, by omega, trivial⟩
        case measure => simp [intOf]; omega
    · obtain rfl : k = 32 := by omega
      go_wp2_with fail
      refine (awake_any w2).mono ?_
      rintro e w3 ⟨rfl, hb3⟩
      go_wp2
      go_ret
      exact ⟨rfl, bl_trans HB2.out hb3⟩
end blockLeast
end Go.Proofs.Ytchcaidcohgjbaa
