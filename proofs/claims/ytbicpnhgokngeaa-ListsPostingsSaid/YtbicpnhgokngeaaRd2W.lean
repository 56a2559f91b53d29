/- The walks of the Reader: take and zeros. -/
import Derived.Test.YtbicpnhgokngeaaRdW
namespace Go.Proofs.Ytbicpnhgokngeaa
open Go.RowKit
set_option linter.unusedVariables false
set_option linter.unusedSimpArgs false
theorem or_bit (v : Nat) (x : Bool) (h : v < 9223372036854775808) : bits .or .u64 ((2 * v : Nat) : Int) (x.toNat : Int) = ((2 * v + x.toNat : Nat) : Int) := by
  rw [u64_or _ _ (by omega) (by omega) (by omega) (by cases x <;> simp)]
  rw [Int.toNat_natCast, Int.toNat_natCast]
  cases x
  · simp
  · congr 1
    have := Nat.two_pow_add_eq_or_of_lt (i := 1) (a := v) (b := 1) (by decide)
    simp at this ⊢
    omega
set_option maxRecDepth 100000 in
theorem take_rd (base g : Nat) (L : List Bool) (pos at_ nn : Nat) (a n : Int) (w : World) (hs : RdS w base g L pos) (ha : a = at_) (hn : n = nn) (hn64 : nn ≤ 64) (hat : at_ ≤ L.length) :
    Calls Try.prog 34 #[.pointer (some ⟨g, 0, none⟩), .int .i64 a, .int .i64 n] w fun e w' => e = .returned (if L.length - at_ < nn then .tuple #[.int .u64 0, .bool false] else .tuple #[.int .u64 (takeM L at_ nn : Int), .bool true]) ∧ w = w' := by
  subst ha hn
  have HS := hide hs
  obtain ⟨A, m, c, p, h1, h2, h3, h4, h5, h6, h7, h8, h9⟩ := hs
  have c1 : w.cell? ⟨g, 1, none⟩ = some (.int .i64 (L.length : Int)) := cell_of_row w g 1 _ _ _ h1
  obtain ⟨N, hN⟩ : ∃ N, N = L.length := ⟨_, rfl⟩
  rw [← hN] at c1 h9 hat ⊢
  have HN := hide hN
  clear hN h1 h2 h3 h4 h5 h6 h7 h8
  go_enter Try.func34, Try.ntmps34
  by_cases hlt : N - at_ < nn
  · have g1 : (N : Int) - at_ < nn := by omega
    rw [if_pos hlt]
    go_wp2
    go_ret2
    exact ⟨rfl, rfl⟩
  · have g1 : ¬ (N : Int) - at_ < nn := by omega
    rw [if_neg hlt]
    go_wp2
    go_loop [8, 19] (fun y i => ∃ (k v : Nat), i = .int .i64 (k : Int) ∧ y = .int .u64 (v : Int) ∧ k ≤ nn ∧ v = numB ((L.drop at_).take k)) (fun _ i => nn - (intOf i).toNat)
    case atStart => exact ⟨0, 0, rfl, rfl, Nat.zero_le _, rfl⟩
    case round =>
      obtain ⟨k, v, rfl, rfl, hk, hv⟩ := hrel
      have hvl : v < 2 ^ k := by
        rw [hv]
        exact Nat.lt_of_lt_of_le (numB_lt _) (Nat.pow_le_pow_right (by decide) (by simp; omega))
      have HV := hide hv
      clear hv
      by_cases hkn : k < nn
      · obtain ⟨x, hx⟩ : ∃ x, L[at_ + k]? = some x := ⟨L[at_ + k]'(by rw [← HN.out]; omega), List.getElem?_eq_getElem _⟩
        have hv63 : v < 9223372036854775808 := Nat.lt_of_lt_of_le hvl (Nat.le_trans (Nat.pow_le_pow_right (by decide) (show k ≤ 63 by omega)) (by decide))
        have HX := hide hx
        have HV63 := hide hv63
        clear hvl hx hv63
        go_wp2_with fail
        refine (bit_any base g L pos (at_ + k) _ x w HS.out (by simp) HX.out).mono ?_
        rintro e w' ⟨rfl, rfl⟩
        obtain ⟨v2, hv2⟩ : ∃ v2, v2 = 2 * v := ⟨_, rfl⟩
        obtain ⟨v3, hv3⟩ : ∃ v3, v3 = 2 * v + x.toNat := ⟨_, rfl⟩
        have e2 : IntKind.u64.wrap ((v : Int) * 2) = (v2 : Int) := by
          have := HV63.out
          rw [IntKind.wrap_u64]; omega
        have eo : bits .or .u64 (v2 : Int) (x.toNat : Int) = (v3 : Int) := by rw [hv2, hv3]; exact or_bit v x HV63.out
        have HV3 := hide hv3
        clear hv2 hv3
        go_wp2
        go_round
        case rel =>
          refine ⟨k + 1, v3, by go_num, rfl, by omega, ?_⟩
          rw [take_snoc _ _ x (by rw [List.getElem?_drop]; exact HX.out), numB_snoc, ← HV.out, HV3.out]
        case measure => simp [intOf]; omega
      · obtain rfl : k = nn := by omega
        go_wp2
        go_ret2
        exact ⟨by rw [HV.out]; rfl, rfl⟩
theorem zr_zero : ∀ (L : List Bool) (at_ m n : Nat), L.length ≤ at_ → zr m (L.drop at_) n = (0, 10) := fun L at_ m n h => by
  rw [List.drop_eq_nil_of_le h]; cases m <;> rfl
theorem zr_one : ∀ (L : List Bool) (at_ m n : Nat), L[at_]? = some true → zr m (L.drop at_) n = (n, 0) := fun L at_ m n h => by
  obtain ⟨h1, h2⟩ := List.getElem?_eq_some_iff.1 h
  rw [List.drop_eq_getElem_cons h1, h2]; cases m <;> rfl
theorem zr_end : ∀ (L : List Bool) (at_ n : Nat), L[at_]? = some false → zr 0 (L.drop at_) n = (0, 9) := fun L at_ n h => by
  obtain ⟨h1, h2⟩ := List.getElem?_eq_some_iff.1 h
  rw [List.drop_eq_getElem_cons h1, h2]; rfl
theorem zr_step : ∀ (L : List Bool) (at_ m n : Nat), L[at_]? = some false → zr (m + 1) (L.drop at_) n = zr m (L.drop (at_ + 1)) (n + 1) := fun L at_ m n h => by
  obtain ⟨h1, h2⟩ := List.getElem?_eq_some_iff.1 h
  rw [List.drop_eq_getElem_cons h1, h2]; rfl
set_option maxRecDepth 100000 in
theorem zeros_rd (base g : Nat) (L : List Bool) (pos at_ most : Nat) (a mm : Int) (w : World) (hs : RdS w base g L pos) (ha : a = at_) (hm : mm = most) (hm5 : most ≤ 5000) (hat : at_ ≤ L.length) :
    Calls Try.prog 37 #[.pointer (some ⟨g, 0, none⟩), .int .i64 a, .int .i64 mm] w fun e w' => e = .returned (.tuple #[.int .i64 ((zerosM L at_ most).1 : Int), .int .i64 ((zerosM L at_ most).2 : Int)]) ∧ w = w' := by
  subst ha hm
  have HS := hide hs
  obtain ⟨A, m, c, p, h1, h2, h3, h4, h5, h6, h7, h8, h9⟩ := hs
  have c1 : w.cell? ⟨g, 1, none⟩ = some (.int .i64 (L.length : Int)) := cell_of_row w g 1 _ _ _ h1
  obtain ⟨N, hN⟩ : ∃ N, N = L.length := ⟨_, rfl⟩
  rw [← hN] at c1 h9 hat
  have HN := hide hN
  clear hN h1 h2 h3 h4 h5 h6 h7 h8
  go_enter Try.func37, Try.ntmps37
  go_wp2
  go_loop [8] (fun i => ∃ (k : Nat), i = .int .i64 (k : Int) ∧ k ≤ most ∧ zr (most - k) (L.drop (at_ + k)) k = zerosM L at_ most) (fun i => most + 1 - (intOf i).toNat)
  case atStart => exact ⟨0, rfl, Nat.zero_le _, rfl⟩
  case round =>
    obtain ⟨k, rfl, hk, hz⟩ := hrel
    have HZ := hide hz
    clear hz
    by_cases hend : N ≤ at_ + k
    · have g1 : (N : Int) ≤ at_ + k := by omega
      have hz2 := HZ.out
      rw [zr_zero _ _ _ _ (by rw [← HN.out]; exact hend)] at hz2
      have HZ2 := hide hz2
      clear hz2
      go_wp2
      go_ret2
      rw [← HZ2.out]
      exact ⟨rfl, rfl⟩
    · have g1 : ¬ (N : Int) ≤ at_ + k := by omega
      obtain ⟨x, hx⟩ : ∃ x, L[at_ + k]? = some x := ⟨L[at_ + k]'(by rw [← HN.out]; omega), List.getElem?_eq_getElem _⟩
      have HX := hide hx
      clear hx
      cases x with
      | true =>
        have hz2 := HZ.out
        rw [zr_one _ _ _ _ HX.out] at hz2
        have HZ2 := hide hz2
        clear hz2
        go_wp2_with (first | (go_at_call 38; refine (bit_any base g L pos (at_ + k) _ true w HS.out (by simp) HX.out).mono ?_; rintro e w' ⟨rfl, rfl⟩; simp only [Bool.toNat_true]) | go_in)
        go_ret2
        rw [← HZ2.out]
        exact ⟨rfl, rfl⟩
      | false =>
        by_cases hkm : k = most
        · subst hkm
          have hz2 := HZ.out
          rw [Nat.sub_self, zr_end _ _ _ HX.out] at hz2
          have HZ2 := hide hz2
          clear hz2
          go_wp2_with (first | (go_at_call 38; refine (bit_any base g L pos (at_ + k) _ false w HS.out (by simp) HX.out).mono ?_; rintro e w' ⟨rfl, rfl⟩; simp only [Bool.toNat_false]) | go_in)
          go_ret2
          rw [← HZ2.out]
          exact ⟨rfl, rfl⟩
        · have g2 : ((k : Int) == most) = false := by rw [beq_eq_false_iff_ne]; omega
          go_wp2_with (first | (go_at_call 38; refine (bit_any base g L pos (at_ + k) _ false w HS.out (by simp) HX.out).mono ?_; rintro e w' ⟨rfl, rfl⟩; simp only [Bool.toNat_false]) | go_in)
          go_round
          case rel =>
            refine ⟨k + 1, by go_num, by omega, ?_⟩
            have hz2 := HZ.out
            rw [show most - k = (most - (k + 1)) + 1 by omega, zr_step _ _ _ _ HX.out] at hz2
            rw [show at_ + (k + 1) = at_ + k + 1 by omega]
            exact hz2
          case measure => simp [intOf]; omega
end Go.Proofs.Ytbicpnhgokngeaa
