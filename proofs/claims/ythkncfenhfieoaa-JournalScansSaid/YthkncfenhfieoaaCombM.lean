/- The plain law of Combine: bit vectors alone. -/
import Derived.Test.YthkncfenhfieoaaCrc
namespace Go.Proofs.Ythkncfenhfieoaa
set_option linter.unusedVariables false

/-- A linear function. -/
def Lin (f : BitVec 32 → BitVec 32) : Prop := f 0#32 = 0#32 ∧ ∀ a b, f (a ^^^ b) = f a ^^^ f b
theorem lin_stpN (n : Nat) : Lin (stpN n) := ⟨stpN_zero n, fun a b => stpN_xor n a b⟩
/-- The bits below k. -/
def low : Nat → BitVec 32 → BitVec 32
  | 0, _ => 0#32
  | k + 1, v => low k v ^^^ (if v.getLsbD k then BitVec.twoPow 32 k else 0#32)
theorem low_get (v : BitVec 32) : ∀ k i, i < 32 → (low k v).getLsbD i = (decide (i < k) && v.getLsbD i)
  | 0, i, hi => by simp [low]
  | k + 1, i, hi => by
    unfold low
    rw [BitVec.getLsbD_xor, low_get v k i hi]
    by_cases e : i = k
    · subst e
      cases h : v.getLsbD i <;> simp [hi]
    · have : (if v.getLsbD k = true then BitVec.twoPow 32 k else 0#32).getLsbD i = false := by
        cases h : v.getLsbD k
        · simp
        · rw [if_pos rfl, BitVec.getLsbD_twoPow]; simp; omega
      rw [this]
      have h2 : decide (i < k + 1) = decide (i < k) := by
        rw [Bool.eq_iff_iff]; simp; omega
      rw [h2]; simp
theorem low_all (v : BitVec 32) (k : Nat) (h : v >>> k = 0#32) : low k v = v := by
  apply BitVec.eq_of_getLsbD_eq
  intro i hi
  rw [low_get v k i hi]
  by_cases hk : i < k
  · simp [hk]
  · have h1 : (v >>> k).getLsbD (i - k) = false := by rw [h]; simp
    rw [BitVec.getLsbD_ushiftRight, show k + (i - k) = i by omega] at h1
    simp [h1]
theorem shr_32 (v : BitVec 32) : v >>> 32 = 0#32 := by
  apply BitVec.eq_of_toNat_eq
  rw [BitVec.toNat_ushiftRight, Nat.shiftRight_eq_div_pow]
  have := v.isLt
  simp; omega
theorem shr_half (v : BitVec 32) (k : Nat) : ((v >>> k).toNat : Int) / 2 = ((v >>> (k + 1)).toNat : Int) := by
  rw [BitVec.toNat_ushiftRight, BitVec.toNat_ushiftRight, Nat.shiftRight_succ]; omega
theorem lin_low (f : BitVec 32 → BitVec 32) (hf : Lin f) (k : Nat) (v : BitVec 32) : f (low (k + 1) v) = if (v >>> k) &&& 1#32 = 1#32 then f (low k v) ^^^ f (BitVec.twoPow 32 k) else f (low k v) := by
  have e : (v >>> k) &&& 1#32 = 1#32 ↔ v.getLsbD k = true := by
    rw [← BitVec.toNat_inj, BitVec.toNat_and]
    simp [BitVec.getLsbD, Nat.testBit, Nat.and_comm]
  rw [show low (k + 1) v = low k v ^^^ (if v.getLsbD k then BitVec.twoPow 32 k else 0#32) from rfl, hf.2]
  by_cases c : (v >>> k) &&& 1#32 = 1#32
  · rw [if_pos c, if_pos (e.1 c)]
  · rw [if_neg c, if_neg (fun h => c (e.2 h)), hf.1]; simp
theorem stpN_mul (m : Nat) : ∀ n v, stpN (m * n) v = (Nat.repeat (stpN m) n v)
  | 0, v => by simp [stpN, Nat.repeat]
  | n + 1, v => by rw [Nat.mul_succ, Nat.add_comm, stpN_add, stpN_mul m n]; rfl
/-- The matrix of a function, its first k rows filled in. -/
def mat (f : BitVec 32 → BitVec 32) (k : Nat) : Array Value := ((List.range 32).map fun i => if i < k then Value.int .u32 ((f (BitVec.twoPow 32 i)).toNat : Int) else .int .u32 0).toArray
theorem mat_size (f : BitVec 32 → BitVec 32) (k : Nat) : (mat f k).size = 32 := by simp [mat]
theorem mat_get (f : BitVec 32 → BitVec 32) (k j : Nat) (hj : j < 32) : (mat f k)[j]? = some (if j < k then Value.int .u32 ((f (BitVec.twoPow 32 j)).toNat : Int) else .int .u32 0) := by
  simp [mat, hj]
theorem mat_set (f : BitVec 32 → BitVec 32) (k : Nat) : (mat f k).setIfInBounds k (.int .u32 ((f (BitVec.twoPow 32 k)).toNat : Int)) = mat f (k + 1) := by
  apply Array.ext_getElem?
  intro j
  rw [Array.getElem?_setIfInBounds]
  by_cases hj : j < 32
  · rw [mat_get _ _ _ hj, mat_get _ _ _ hj, mat_size]
    by_cases e : k = j
    · subst e; simp [hj]
    · rw [if_neg e]; congr 1
      by_cases h : j < k
      · rw [if_pos h, if_pos (by omega)]
      · rw [if_neg h, if_neg (by omega)]
  · rw [Array.getElem?_eq_none (by rw [mat_size]; omega), Array.getElem?_eq_none (by rw [mat_size]; omega), mat_size]
    split <;> simp; omega
theorem mat_one (f : BitVec 32 → BitVec 32) (k : Nat) : ∀ u ∈ (mat f k).toList, u.oneCell' = true := by
  intro u hu
  simp only [mat, List.toList_toArray, List.mem_map] at hu
  obtain ⟨i, _, rfl⟩ := hu
  split <;> rfl
/-- Zero bytes behind; the sum of two sums. -/
def zeros (n : Nat) (v : BitVec 32) : BitVec 32 := stpN (8 * n) v
def comb (x y : BitVec 32) (n : Nat) : BitVec 32 := zeros n x ^^^ y
theorem zeros_succ (n : Nat) (v : BitVec 32) : zeros (n + 1) v = stpN 8 (zeros n v) := by
  unfold zeros; rw [show 8 * (n + 1) = 8 + 8 * n by omega, stpN_add]
theorem zeros_add (m n : Nat) (v : BitVec 32) : zeros (m + n) v = zeros m (zeros n v) := by
  unfold zeros; rw [Nat.mul_add, stpN_add]
theorem zeros_xor (n : Nat) (a b : BitVec 32) : zeros n (a ^^^ b) = zeros n a ^^^ zeros n b := stpN_xor _ _ _
theorem comb_chain (x y z : BitVec 32) (i j : Nat) : comb (comb x y i) z j = comb x (comb y z j) (i + j) := by
  unfold comb
  rw [zeros_xor, ← zeros_add, Nat.add_comm j i, BitVec.xor_assoc]
theorem crcF_append (v : BitVec 32) (a b : List UInt8) : crcF v (a ++ b) = crcF (crcF v a) b := by simp [crcF]
theorem crcF_split : ∀ (b : List UInt8) (u v : BitVec 32), crcF (u ^^^ v) b = zeros b.length u ^^^ crcF v b
  | [], u, v => by simp [crcF, zeros, stpN]
  | c :: b, u, v => by
    simp only [crcF, List.foldl_cons, List.length_cons]
    have h := crcF_split b (stpN 8 u) (crcB v c)
    have e : crcB (u ^^^ v) c = stpN 8 u ^^^ crcB v c := by
      unfold crcB
      rw [← stpN_xor]; congr 1; ac_rfl
    rw [e]
    simp only [crcF] at h
    rw [h, zeros_succ]
    have : ∀ n, stpN 8 (zeros n u) = zeros n (stpN 8 u) := fun n => by
      unfold zeros; rw [← stpN_add, ← stpN_add, Nat.add_comm]
    rw [this]
theorem crc_append (a b : List UInt8) : crc (a ++ b) = comb (crc a) (crc b) b.length := by
  unfold crc comb
  have n : ∀ x : BitVec 32, ~~~x = BitVec.allOnes 32 ^^^ x := fun x => BitVec.allOnes_xor.symm
  rw [crcF_append, n (crcF (crcF _ a) b), n (crcF _ a), n (crcF _ b), zeros_xor]
  have h1 := crcF_split b (crcF 0xFFFFFFFF#32 a ^^^ BitVec.allOnes 32) (BitVec.allOnes 32)
  rw [BitVec.xor_assoc, BitVec.xor_self, BitVec.xor_zero, zeros_xor] at h1
  have e : (0xFFFFFFFF#32) = BitVec.allOnes 32 := by decide
  rw [e] at h1 ⊢
  rw [h1]
  generalize crcF (BitVec.allOnes 32) b = p
  generalize zeros b.length (crcF (BitVec.allOnes 32) a) = q
  generalize zeros b.length (BitVec.allOnes 32) = r
  generalize BitVec.allOnes 32 = o
  ac_rfl
theorem zeros_bit (n j : Nat) (x : BitVec 32) (h : n / 2 ^ j % 2 = 1) : zeros (n % 2 ^ (j + 1)) x = stpN (8 * 2 ^ j) (zeros (n % 2 ^ j) x) := by
  rw [Nat.mod_pow_succ, h, Nat.mul_one, Nat.add_comm, zeros_add]; rfl
theorem zeros_nobit (n j : Nat) (x : BitVec 32) (h : n / 2 ^ j % 2 = 0) : zeros (n % 2 ^ (j + 1)) x = zeros (n % 2 ^ j) x := by
  rw [Nat.mod_pow_succ, h, Nat.mul_zero, Nat.add_zero]
theorem stpN_twice (j : Nat) : (fun v => stpN (8 * 2 ^ j) (stpN (8 * 2 ^ j) v)) = stpN (8 * 2 ^ (j + 1)) := by
  funext v
  rw [← stpN_add]; congr 1
  rw [Nat.pow_succ]; omega
theorem half_pow (n j : Nat) : n / 2 ^ j / 2 = n / 2 ^ (j + 1) := by rw [Nat.div_div_eq_div_mul, Nat.pow_succ]
theorem twoPow_int (k : Nat) : (2 : Int) ^ k % 4294967296 = ((BitVec.twoPow 32 k).toNat : Int) := by
  rw [BitVec.toNat_twoPow]; simp
end Go.Proofs.Ythkncfenhfieoaa
