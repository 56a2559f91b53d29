/- The walks of the reference: number and zeros. -/
import Derived.Test.YtnflffhmnbjelaaRd4W
namespace Go.Proofs.Ytnflffhmnbjelaa
open Go.RowKit
set_option linter.unusedVariables false
set_option linter.unusedSimpArgs false
set_option maxRecDepth 100000 in
theorem number_ref (a : Option Addr) (n c : Nat) (l : List Bool) (w : World) (hn : n = l.length) (h64 : n ≤ 64) (hr : Rd w a (l.map Value.bool)) :
    Calls Try.prog 58 #[.slice a n c] w fun e w' => e = .returned (.int .u64 (numB l : Int)) ∧ w = w' := by
  have HN := hide hn
  have HR := hide hr
  clear hn hr
  go_enter Try.func58, Try.ntmps58
  go_wp2
  go_loop [3, 8] (fun y i => ∃ (k v : Nat), i = .int .i64 (k : Int) ∧ y = .int .u64 (v : Int) ∧ k ≤ n ∧ v = numB (l.take k)) (fun _ i => n - (intOf i).toNat)
  case atStart => exact ⟨0, 0, rfl, rfl, Nat.zero_le _, rfl⟩
  case round =>
    obtain ⟨k, v, rfl, rfl, hk, hv⟩ := hrel
    have hvl : v < 2 ^ k := by
      rw [hv]
      exact Nat.lt_of_lt_of_le (numB_lt _) (Nat.pow_le_pow_right (by decide) (by simp; omega))
    have HV := hide hv
    clear hv
    by_cases hkn : k < n
    · obtain ⟨x, hx⟩ : ∃ x, l[k]? = some x := ⟨l[k]'(by rw [← HN.out]; omega), List.getElem?_eq_getElem _⟩
      obtain ⟨b, o, rfl, hb, hc⟩ := HR.out.at_ (k := k) (v := .bool x) (by rw [List.getElem?_map, hx]; rfl)
      have hv63 : v < 9223372036854775808 := Nat.lt_of_lt_of_le hvl (Nat.le_trans (Nat.pow_le_pow_right (by decide) (show k ≤ 63 by omega)) (by decide))
      obtain ⟨v2, hv2⟩ : ∃ v2, v2 = 2 * v := ⟨_, rfl⟩
      obtain ⟨v3, hv3⟩ : ∃ v3, v3 = 2 * v + 1 := ⟨_, rfl⟩
      have e2 : IntKind.u64.wrap ((v : Int) * 2) = (v2 : Int) := by rw [IntKind.wrap_u64]; omega
      have e3 : IntKind.u64.wrap ((v2 : Int) + 1) = (v3 : Int) := by rw [IntKind.wrap_u64]; omega
      have HVV := hide (And.intro hv2 hv3)
      have HX := hide hx
      clear hvl hx hv63 hv2 hv3
      cases x
      · go_wp2
        go_round
        case rel =>
          refine ⟨k + 1, v2, by go_num, rfl, by omega, ?_⟩
          rw [take_snoc _ _ _ HX.out, numB_snoc, ← HV.out, HVV.out.1]; simp
        case measure => simp [intOf]; omega
      · go_wp2
        go_round
        case rel =>
          refine ⟨k + 1, v3, by go_num, rfl, by omega, ?_⟩
          rw [take_snoc _ _ _ HX.out, numB_snoc, ← HV.out, HVV.out.2]; simp
        case measure => simp [intOf]; omega
    · obtain rfl : k = n := by omega
      go_wp2
      go_ret
      exact ⟨by rw [HV.out, List.take_of_length_le (by rw [← HN.out]; exact Nat.le_refl _)]; rfl, rfl⟩
set_option maxRecDepth 100000 in
theorem zeros_ref (A : Option Addr) (n c : Nat) (L : List Bool) (at_ most : Nat) (a mm : Int) (w : World) (hn : n = L.length) (hn5 : n ≤ 100000) (hr : Rd w A (L.map Value.bool)) (ha : a = at_) (hm : mm = most) (hm5 : most ≤ 5000) (hat : at_ ≤ n) :
    Calls Try.prog 59 #[.slice A n c, .int .i64 a, .int .i64 mm] w fun e w' => e = .returned (.tuple #[.int .i64 ((zerosM L at_ most).1 : Int), .int .i64 ((zerosM L at_ most).2 : Int)]) ∧ w = w' := by
  subst ha hm
  have HN := hide hn
  have HR := hide hr
  clear hn hr
  go_enter Try.func59, Try.ntmps59
  go_wp2
  go_loop [8] (fun i => ∃ (k : Nat), i = .int .i64 (k : Int) ∧ k ≤ most ∧ zr (most - k) (L.drop (at_ + k)) k = zerosM L at_ most) (fun i => most + 1 - (intOf i).toNat)
  case atStart => exact ⟨0, rfl, Nat.zero_le _, rfl⟩
  case round =>
    obtain ⟨k, rfl, hk, hz⟩ := hrel
    have HZ := hide hz
    clear hz
    by_cases hend : n ≤ at_ + k
    · have g1 : (n : Int) ≤ at_ + k := by omega
      have hz2 := HZ.out
      rw [zr_zero _ _ _ _ (by rw [← HN.out]; exact hend)] at hz2
      have HZ2 := hide hz2
      clear hz2
      go_wp2
      go_ret2
      rw [← HZ2.out]
      exact ⟨rfl, rfl⟩
    · obtain ⟨t, ht⟩ : ∃ t, t = at_ + k := ⟨_, rfl⟩
      have et : (at_ : Int) + k = (t : Int) := by omega
      have htn : (t : Int) < n := by omega
      have htn2 : ¬ (n : Int) ≤ t := by omega
      obtain ⟨x, hx⟩ : ∃ x, L[at_ + k]? = some x := ⟨L[at_ + k]'(by rw [← HN.out]; omega), List.getElem?_eq_getElem _⟩
      obtain ⟨b, o, rfl, hb, hc⟩ := HR.out.at_ (k := t) (v := .bool x) (by rw [ht, List.getElem?_map, hx]; rfl)
      have HX := hide hx
      have ht5 : t ≤ 100000 := by omega
      clear hx ht
      cases x with
      | true =>
        have hz2 := HZ.out
        rw [zr_one _ _ _ _ HX.out] at hz2
        have HZ2 := hide hz2
        clear hz2
        go_wp2
        go_ret2
        rw [← HZ2.out]
        exact ⟨rfl, rfl⟩
      | false =>
        by_cases hkm : k = most
        · subst hkm
          have hz2 := HZ.out
          rw [Nat.sub_self, zr_end _ _ _ HX.out] at hz2
          have HZ2 := hide hz2
          have g3 : (k : Int) < k + 1 := by omega
          clear hz2
          go_wp2
          go_ret2
          rw [← HZ2.out]
          exact ⟨rfl, rfl⟩
        · have g2 : ¬ (most : Int) < k + 1 := by omega
          go_wp2
          go_round
          case rel =>
            refine ⟨k + 1, by go_num, by omega, ?_⟩
            have hz2 := HZ.out
            rw [show most - k = (most - (k + 1)) + 1 by omega, zr_step _ _ _ _ HX.out] at hz2
            rw [show at_ + (k + 1) = at_ + k + 1 by omega]
            exact hz2
          case measure => simp [intOf]; omega
end Go.Proofs.Ytnflffhmnbjelaa
