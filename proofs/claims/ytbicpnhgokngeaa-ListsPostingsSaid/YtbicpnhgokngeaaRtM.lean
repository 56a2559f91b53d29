/- What a Writer's calls append is read back: the plain law. -/
import Derived.Test.YtbicpnhgokngeaaRdM
import Derived.Test.YtbicpnhgokngeaaLenW
namespace Go.Proofs.Ytbicpnhgokngeaa
set_option linter.unusedVariables false
theorem rt_num (v : Nat) : ∀ w, numB (lowB v w) = v % 2 ^ w := by
  have key : ∀ w acc, numF acc (lowB v w) = acc * 2 ^ w + v % 2 ^ w := by
    intro w
    induction w with
    | zero => intro acc; simp [lowB, numF, Nat.mod_one]
    | succ w ih =>
      intro acc
      have h1 : numF acc (lowB v (w + 1)) = numF (2 * acc + (decide (v / 2 ^ w % 2 = 1)).toNat) (lowB v w) := rfl
      rw [h1, ih]
      have h2 : (decide (v / 2 ^ w % 2 = 1)).toNat = v / 2 ^ w % 2 := by
        rcases Nat.mod_two_eq_zero_or_one (v / 2 ^ w) with h | h <;> simp [h]
      rw [h2, Nat.pow_succ, Nat.mod_mul, Nat.add_mul, Nat.mul_comm (v / 2 ^ w % 2)]
      have : 2 * acc * 2 ^ w = acc * (2 ^ w * 2) := by rw [Nat.mul_comm 2 acc, Nat.mul_assoc, Nat.mul_comm 2]
      omega
  intro w
  have := key w 0
  simpa [numB] using this
theorem rt_take (P B R : List Bool) (k : Nat) (h : B.length = k) : takeM (P ++ (B ++ R)) P.length k = numB B := by
  unfold takeM
  rw [List.drop_left, ← h, List.take_left]
theorem rt_zr : ∀ (n m k : Nat) (R : List Bool), n ≤ m → zr m (List.replicate n false ++ true :: R) k = (n + k, 0)
  | 0, m, k, R, h => by cases m <;> simp [zr]
  | n + 1, m + 1, k, R, h => by
    rw [List.replicate_succ, List.cons_append]
    simp only [zr]
    rw [rt_zr n m (k + 1) R (by omega)]
    congr 1; omega
  | n + 1, 0, k, R, h => absurd h (by omega)
theorem rt_top (v : Nat) (h0 : v ≠ 0) (hv : v < 2 ^ 64) : lowB v (Lib.bitLen v) = true :: lowB v (Lib.bitLen v - 1) := by
  have h1 := bl_bounds v hv
  have h2 := h1.2 h0
  have hb : 1 ≤ Lib.bitLen v := by rw [bl_pos v h0 hv]; omega
  obtain ⟨b, hb2⟩ : ∃ b, Lib.bitLen v = b + 1 := ⟨Lib.bitLen v - 1, by omega⟩
  rw [hb2] at h1 h2 ⊢
  simp only [Nat.add_sub_cancel] at h2 ⊢
  have h3 : v / 2 ^ b = 1 := by
    have h4 := h1.1
    rw [Nat.pow_succ] at h4
    have hp : 0 < 2 ^ b := Nat.pow_pos (by decide)
    apply Nat.le_antisymm
    · exact Nat.lt_succ_iff.1 (Nat.div_lt_of_lt_mul (by omega))
    · exact (Nat.le_div_iff_mul_le hp).2 (by omega)
  simp [lowB, h3]
theorem rt_bits (P R : List Bool) (v : Nat) (n : Int) (B : List Bool) (hv : v < 2 ^ 64) (h : wBits v n = some B) : bitsM (P ++ (B ++ R)) P.length n = (v, P.length + B.length, 0) := by
  unfold wBits at h
  by_cases hc : 0 ≤ n ∧ n ≤ 64 ∧ (Lib.bitLen v : Int) ≤ n
  · rw [if_pos hc] at h
    injection h with h
    have hl : B.length = n.toNat := by rw [← h, lowB_length]
    have hlt := (bl_le v n.toNat hv).1 (by omega)
    unfold bitsM
    rw [if_neg (by omega), if_neg (by simp only [List.length_append]; omega), rt_take P B R _ hl, ← h, rt_num, Nat.mod_eq_of_lt hlt, lowB_length]
  · rw [if_neg hc] at h; cases h
theorem rt_unary (P R : List Bool) (n : Int) (B : List Bool) (h : wUnary n = some B) : unaryM (P ++ (B ++ R)) P.length = (n.toNat, P.length + B.length, 0) := by
  unfold wUnary at h
  by_cases hc : 0 ≤ n ∧ n ≤ 4096
  · rw [if_pos hc] at h
    injection h with h
    have hz : zerosM (P ++ (B ++ R)) P.length 4096 = (n.toNat, 0) := by
      unfold zerosM
      rw [List.drop_left, ← h, List.append_assoc, List.singleton_append, rt_zr _ _ _ _ (by omega), Nat.add_zero]
    unfold unaryM
    rw [hz, if_pos rfl, ← h]
    simp only [List.length_append, List.length_replicate, List.length_singleton]
    rw [Nat.add_assoc]
  · rw [if_neg hc] at h; cases h
theorem gamB_len (v : Nat) (h0 : v ≠ 0) (hv : v < 2 ^ 64) : (gamB v).length = 2 * (Lib.bitLen v - 1) + 1 := by
  have hb : 1 ≤ Lib.bitLen v := by rw [bl_pos v h0 hv]; omega
  unfold gamB
  rw [List.length_append, List.length_replicate, lowB_length]; omega
theorem rt_gamma (P R : List Bool) (v : Nat) (h0 : v ≠ 0) (hv : v < 2 ^ 64) : gammaM (P ++ (gamB v ++ R)) P.length = (v, P.length + (gamB v).length, 0) := by
  have hb : 1 ≤ Lib.bitLen v := by rw [bl_pos v h0 hv]; omega
  have hb64 := bl_64 v hv
  have hz : zerosM (P ++ (gamB v ++ R)) P.length 63 = (Lib.bitLen v - 1, 0) := by
    unfold zerosM gamB
    rw [List.drop_left, List.append_assoc, rt_top v h0 hv, List.cons_append, rt_zr _ _ _ _ (by omega), Nat.add_zero]
  have ht : takeM (P ++ (gamB v ++ R)) (P.length + (Lib.bitLen v - 1)) (Lib.bitLen v - 1 + 1) = v := by
    have e : P ++ (gamB v ++ R) = (P ++ List.replicate (Lib.bitLen v - 1) false) ++ (lowB v (Lib.bitLen v) ++ R) := by unfold gamB; simp only [List.append_assoc]
    have el : P.length + (Lib.bitLen v - 1) = (P ++ List.replicate (Lib.bitLen v - 1) false).length := by simp
    rw [e, el, rt_take _ _ _ _ (by rw [lowB_length]; omega), rt_num, Nat.mod_eq_of_lt (bl_bounds v hv).1]
  have hl := gamB_len v h0 hv
  unfold gammaM
  rw [hz, if_pos rfl]
  simp only
  rw [if_neg (by simp only [List.length_append]; omega), ht, hl, Nat.add_assoc]
theorem rt_delta (P R : List Bool) (v : Nat) (h0 : v ≠ 0) (hv : v < 2 ^ 64) : deltaM (P ++ ((gamB (Lib.bitLen v) ++ lowB v (Lib.bitLen v - 1)) ++ R)) P.length = (v, P.length + (gamB (Lib.bitLen v) ++ lowB v (Lib.bitLen v - 1)).length, 0) := by
  have hb : 1 ≤ Lib.bitLen v := by rw [bl_pos v h0 hv]; omega
  have hb64 := bl_64 v hv
  have hbb := bl_bounds v hv
  obtain ⟨b, hbe⟩ : ∃ b, b = Lib.bitLen v := ⟨_, rfl⟩
  rw [← hbe] at hb hb64 hbb ⊢
  have hg := rt_gamma P (lowB v (b - 1) ++ R) b (by omega) (by omega)
  have e : P ++ ((gamB b ++ lowB v (b - 1)) ++ R) = P ++ (gamB b ++ (lowB v (b - 1) ++ R)) := by simp only [List.append_assoc]
  have ht : takeM (P ++ (gamB b ++ (lowB v (b - 1) ++ R))) (P.length + (gamB b).length) (b - 1) = v % 2 ^ (b - 1) := by
    have e2 : P ++ (gamB b ++ (lowB v (b - 1) ++ R)) = (P ++ gamB b) ++ (lowB v (b - 1) ++ R) := by simp only [List.append_assoc]
    rw [e2, ← List.length_append, rt_take _ _ _ _ (lowB_length _ _), rt_num]
  have hv2 : 2 ^ (b - 1) + v % 2 ^ (b - 1) = v := by
    have h2 := hbb.2 h0
    have h4 := hbb.1
    obtain ⟨c, hc⟩ : ∃ c, b = c + 1 := ⟨b - 1, by omega⟩
    rw [hc] at h2 h4 ⊢
    simp only [Nat.add_sub_cancel] at h2 ⊢
    rw [Nat.pow_succ] at h4
    have h5 : v / 2 ^ c = 1 := by
      have hp : 0 < 2 ^ c := Nat.pow_pos (by decide)
      apply Nat.le_antisymm
      · exact Nat.lt_succ_iff.1 (Nat.div_lt_of_lt_mul (by omega))
      · exact (Nat.le_div_iff_mul_le hp).2 (by omega)
    have h6 := Nat.div_add_mod v (2 ^ c)
    rw [h5, Nat.mul_one] at h6
    exact h6
  unfold deltaM
  rw [e, hg]
  simp only [if_true]
  rw [if_neg (by omega), if_neg (by simp only [List.length_append, lowB_length]; omega), ht, hv2, List.length_append, lowB_length, Nat.add_assoc]
end Go.Proofs.Ytbicpnhgokngeaa
