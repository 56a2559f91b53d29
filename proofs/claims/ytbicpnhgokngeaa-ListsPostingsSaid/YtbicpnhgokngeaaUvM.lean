/- The plain law of numbers of variable length: lists of bytes alone. -/
import Derived.Test.YtbicpnhgokngeaaBase
namespace Go.Proofs.Ytbicpnhgokngeaa
set_option linter.unusedVariables false

/-- The encoding. -/
def uvF : Nat → Nat → List UInt8
  | 0, v => [UInt8.ofNat v]
  | n + 1, v => if v < 128 then [UInt8.ofNat v] else UInt8.ofNat (v % 128 + 128) :: uvF n (v / 128)
def uv (v : Nat) : List UInt8 := uvF 9 v
/-- Decoding: the number, the number of bytes, the error. -/
def dec : Nat → Nat → List UInt8 → Nat × Nat × Nat
  | _, _, [] => (0, 0, 10)
  | i, v, c :: l =>
    if i = 9 ∧ 1 < c.toNat then (0, 0, 9)
    else if c.toNat < 128 then (if c.toNat = 0 ∧ 0 < i then (0, 0, 9) else (v + c.toNat % 128 * 2 ^ (7 * i), i + 1, 0))
    else dec (i + 1) (v + c.toNat % 128 * 2 ^ (7 * i)) l
theorem uvF_length : ∀ n v, 1 ≤ (uvF n v).length ∧ (uvF n v).length ≤ n + 1
  | 0, v => by simp [uvF]
  | n + 1, v => by
    unfold uvF
    split
    · simp
    · have := uvF_length n (v / 128)
      simp; omega
/-- Decoding what was encoded, whatever follows. -/
theorem dec_uvF : ∀ n v i a rest, v < 128 ^ (n + 1) → i + n = 9 → (i = 0 ∨ 0 < v) → v < 2 ^ (64 - 7 * i) → dec i a (uvF n v ++ rest) = (a + v * 2 ^ (7 * i), i + (uvF n v).length, 0)
  | 0, v, i, a, rest, h1, h2, h3, h4 => by
    obtain rfl : i = 9 := by omega
    have hv : v < 2 := by simpa using h4
    have hv1 : v = 1 := by omega
    subst hv1
    simp [uvF, dec]
  | n + 1, v, i, a, rest, h1, h2, h3, h4 => by
    have hi : i ≠ 9 := by omega
    unfold uvF
    by_cases hlt : v < 128
    · rw [if_pos hlt]
      have e : (UInt8.ofNat v).toNat = v := by simp [UInt8.toNat_ofNat']; omega
      simp only [List.cons_append, List.nil_append, dec, e]
      rw [if_neg (by omega), if_pos hlt, if_neg (by omega)]
      simp [Nat.mod_eq_of_lt hlt]
    · rw [if_neg hlt]
      have e : (UInt8.ofNat (v % 128 + 128)).toNat = v % 128 + 128 := by simp [UInt8.toNat_ofNat']; omega
      simp only [List.cons_append, dec, e]
      rw [if_neg (by omega), if_neg (by omega), dec_uvF n (v / 128) (i + 1) _ rest (by
        rw [Nat.pow_succ] at h1; omega) (by omega) (.inr (by omega)) (by
        have e2 : 64 - 7 * i = (64 - 7 * (i + 1)) + 7 := by omega
        rw [e2, Nat.pow_add] at h4
        omega)]
      have e3 : (v % 128 + 128) % 128 = v % 128 := by omega
      have e4 : 2 ^ (7 * (i + 1)) = 128 * 2 ^ (7 * i) := by rw [Nat.mul_succ, Nat.pow_add]; omega
      rw [e3, e4]
      simp only [List.length_cons, Prod.mk.injEq]
      refine ⟨?_, by omega, trivial⟩
      have e5 := Nat.div_add_mod v 128
      have : v * 2 ^ (7 * i) = v % 128 * 2 ^ (7 * i) + v / 128 * (128 * 2 ^ (7 * i)) := by
        conv => lhs; rw [← e5, Nat.add_mul]
        rw [Nat.mul_comm 128, Nat.mul_assoc]; omega
      omega
theorem dec_uv (v : Nat) (rest : List UInt8) (h : v < 2 ^ 64) : dec 0 0 (uv v ++ rest) = (v, (uv v).length, 0) := by
  have := dec_uvF 9 v 0 0 rest (by omega) (by omega) (.inl rfl) (by simpa using h)
  simpa [uv] using this
/-- Every proper beginning of an encoding is truncated. -/
theorem dec_prefix : ∀ n v i a k, i + n ≤ 9 → k < (uvF n v).length → dec i a ((uvF n v).take k) = (0, 0, 10)
  | _, _, _, _, 0, _, _ => by simp [dec]
  | 0, v, i, a, k + 1, _, hk => by simp [uvF] at hk
  | n + 1, v, i, a, k + 1, hi, hk => by
    unfold uvF at hk ⊢
    by_cases hlt : v < 128
    · rw [if_pos hlt] at hk; simp at hk
    · rw [if_neg hlt] at hk ⊢
      have e : (UInt8.ofNat (v % 128 + 128)).toNat = v % 128 + 128 := by simp [UInt8.toNat_ofNat']; omega
      simp only [List.take_succ_cons, dec, e]
      rw [if_neg (by omega), if_neg (by omega)]
      exact dec_prefix n (v / 128) (i + 1) _ k (by omega) (by simpa using hk)
theorem uv_inj (v w : Nat) (hv : v < 2 ^ 64) (hw : w < 2 ^ 64) : uv v = uv w ↔ v = w := by
  constructor
  · intro h
    have h1 := dec_uv v [] hv
    rw [h, dec_uv w [] hw] at h1
    simp only [Prod.mk.injEq] at h1
    exact h1.1.symm
  · rintro rfl; rfl
theorem uvF_mono : ∀ n v w, v ≤ w → (uvF n v).length ≤ (uvF n w).length
  | 0, _, _, _ => by simp [uvF]
  | n + 1, v, w, h => by
    unfold uvF
    by_cases h1 : w < 128
    · rw [if_pos h1, if_pos (by omega)]; simp
    · rw [if_neg h1]
      split
      · simp
      · have := uvF_mono n (v / 128) (w / 128) (by omega)
        simpa using this

theorem or128 (v : Nat) : bits .or .u8 ((v : Int) % 256) 128 = ((UInt8.ofNat (v % 128 + 128)).toNat : Int) := by
  have h : ∀ a : Fin 256, (a.val ||| 128) = a.val % 128 + 128 := by decide +kernel
  rw [u8_or _ _ (by omega) (by omega) (by omega) (by omega)]
  have e : ((v : Int) % 256).toNat = v % 256 := by omega
  rw [e, show (128 : Int).toNat = 128 from rfl, h ⟨v % 256, by omega⟩]
  simp [UInt8.toNat_ofNat']
  omega
theorem byte_of (v : Nat) (h : v < 128) : (v : Int) % 256 = ((UInt8.ofNat v).toNat : Int) := by
  simp [UInt8.toNat_ofNat']
theorem u8v_of (v : Nat) (h : v < 128) : [Value.int .u8 (v : Int)] = [UInt8.ofNat v].map u8v := by
  simp [u8v, UInt8.toNat_ofNat']; omega
theorem uvF_big (n v : Nat) (h : 128 ≤ v) : uvF (n + 1) v = UInt8.ofNat (v % 128 + 128) :: uvF n (v / 128) := by
  rw [uvF, if_neg (by omega)]
theorem uvF_small (n v : Nat) (h : v < 128) : uvF n v = [UInt8.ofNat v] := by
  cases n with
  | zero => rfl
  | succ n => rw [uvF, if_pos h]
set_option maxRecDepth 100000 in
theorem v_or (v c i : Nat) (hi : i ≤ 9) (h9 : i = 9 → c ≤ 1) (hc : c < 256) (hv : v < 2 ^ (7 * i)) :
    bits .or .u64 (v : Int) (((c % 128 : Nat) : Int) * 2 ^ (7 * i) % 18446744073709551616) = ((v + c % 128 * 2 ^ (7 * i) : Nat) : Int) ∧ v + c % 128 * 2 ^ (7 * i) < 2 ^ (7 * (i + 1)) ∧ v + c % 128 * 2 ^ (7 * i) < 2 ^ 64 := by
  have hp : 0 < 2 ^ (7 * i) := Nat.two_pow_pos _
  have h7 : 2 ^ (7 * (i + 1)) = 128 * 2 ^ (7 * i) := by rw [Nat.mul_succ, Nat.pow_add]; omega
  have hle : c % 128 * 2 ^ (7 * i) ≤ 127 * 2 ^ (7 * i) := Nat.mul_le_mul_right _ (by omega)
  have hlt : c % 128 * 2 ^ (7 * i) + 2 ^ (7 * i) ≤ 18446744073709551616 := by
    by_cases e : i = 9
    · subst e
      have h1 := h9 rfl
      have h2 : c % 128 ≤ 1 := by omega
      have h5 : c % 128 = 0 ∨ c % 128 = 1 := by omega
      rcases h5 with h5 | h5 <;> rw [h5] <;> exact Nat.le_of_ble_eq_true rfl
    · have h8 : 2 ^ (7 * i) ≤ 2 ^ 56 := Nat.pow_le_pow_right (by omega) (by omega)
      have h4 : 2 ^ 56 = 72057594037927936 := rfl
      rw [h4] at h8
      clear h4
      omega
  have h64 : 2 ^ 64 = 18446744073709551616 := rfl
  rw [h64, h7]
  clear h64
  have hI : ((c % 128 : Nat) : Int) * 2 ^ (7 * i) = ((c % 128 * 2 ^ (7 * i) : Nat) : Int) := by simp
  rw [hI]
  generalize hq : c % 128 * 2 ^ (7 * i) = q at hle hlt
  have hor : v ||| q = v + q := by
    rw [← hq, Nat.or_comm, Nat.mul_comm (c % 128), ← Nat.two_pow_add_eq_or_of_lt hv, Nat.add_comm]
  clear hq hI
  generalize 2 ^ (7 * i) = p at *
  refine ⟨?_, by omega, by omega⟩
  have e1 : ((q : Nat) : Int) % 18446744073709551616 = ((q : Nat) : Int) := by omega
  rw [e1, u64_or (v : Int) (q : Int) (by omega) (by omega) (by omega) (by omega), Int.toNat_natCast, Int.toNat_natCast, hor]
theorem and127 (c : UInt8) : bits .and .u8 (c.toNat : Int) 127 = ((c.toNat % 128 : Nat) : Int) := by
  have hc := c.toNat_lt
  have h : ∀ a : Fin 256, (a.val &&& 127) = a.val % 128 := by decide +kernel
  rw [u8_and _ _ (by omega) (by omega) (by omega) (by omega), Int.toNat_natCast, show (127 : Int).toNat = 127 from rfl]
  rw [h ⟨c.toNat, hc⟩]
theorem v_or2 (v c i m : Nat) (hi : i ≤ 9) (h9 : i = 9 → c ≤ 1) (hc : c < 256) (hv : v < 2 ^ (7 * i)) (hm : c % 128 = m) :
    ∃ v2 : Nat, bits .or .u64 (v : Int) (IntKind.u64.wrap ((m : Int) * 2 ^ (7 * i))) = (v2 : Int) ∧ v2 = v + c % 128 * 2 ^ (7 * i) ∧ v2 < 2 ^ (7 * (i + 1)) := by
  subst hm
  obtain ⟨h1, h2, h3⟩ := v_or v c i hi h9 hc hv
  exact ⟨_, by rw [IntKind.wrap_u64]; exact h1, rfl, h2⟩
end Go.Proofs.Ytbicpnhgokngeaa
