/- The plain law of the cyclic redundancy check: bit vectors and lists of bytes alone, nothing of the program. The plain law of Combine: bit vectors alone. The plain law of bursts: some of 32 consecutive bits turned do not pass the check. Bit vectors and lists of bytes alone. The plain law of the journal: lists of bytes alone. The walks of the checksum's functions: the program's Sum and the reference's. The walks of the journal's bytes: get, put, sum. -/
import Derived.Test.YtjpmfiicbokdcaaBase
import Derived.Test.YtjpmfiicbokdcaaProg
import Derived.Test.YtjpmfiicbokdcaaStr
import Derived.Test.YtjpmfiicbokdcaaKeep
namespace Go.Proofs.Ytjpmfiicbokdcaa

def c32 (c : UInt8) : BitVec 32 := c.toBitVec.setWidth 32
def stp (v : BitVec 32) : BitVec 32 := (v >>> 1) ^^^ (if v.getLsbD 0 then 0x82F63B78#32 else 0#32)
def stpN : Nat → BitVec 32 → BitVec 32
  | 0, v => v
  | n + 1, v => stp (stpN n v)
theorem stp_xor (a b : BitVec 32) : stp (a ^^^ b) = stp a ^^^ stp b := by
  unfold stp
  rw [BitVec.getLsbD_xor, BitVec.ushiftRight_xor_distrib]
  have e : ∀ p : BitVec 32, (a >>> 1 ^^^ p) ^^^ (b >>> 1 ^^^ p) = a >>> 1 ^^^ b >>> 1 := fun p => by
    rw [BitVec.xor_comm (b >>> 1) p, BitVec.xor_assoc, ← BitVec.xor_assoc p p, BitVec.xor_self, BitVec.zero_xor]
  cases a.getLsbD 0 <;> cases b.getLsbD 0 <;> simp [e] <;> ac_rfl
theorem stpN_xor (n : Nat) (a b : BitVec 32) : stpN n (a ^^^ b) = stpN n a ^^^ stpN n b := by
  induction n with
  | zero => rfl
  | succ n ih => simp only [stpN, ih, stp_xor]
theorem stpN_add (m n : Nat) (v : BitVec 32) : stpN (m + n) v = stpN m (stpN n v) := by
  induction m with
  | zero => simp [stpN]
  | succ m ih => rw [Nat.succ_add]; simp only [stpN, ih]
theorem stp_even (v : BitVec 32) (h : v.getLsbD 0 = false) : stp v = v >>> 1 := by unfold stp; rw [h]; simp
theorem stp_zero : stp 0#32 = 0#32 := by decide
theorem stpN_zero (n : Nat) : stpN n 0#32 = 0#32 := by
  induction n with
  | zero => rfl
  | succ n ih => simp only [stpN, ih, stp_zero]
def nib (v : BitVec 32) : BitVec 32 := (v >>> 4) ^^^ stpN 4 (v &&& 15#32)
theorem stpN4_hi (v : BitVec 32) : stpN 4 ((v >>> 4) <<< 4) = v >>> 4 := by
  simp only [stpN]
  rw [stp_even ((v >>> 4) <<< 4) (by simp), stp_even (((v >>> 4) <<< 4) >>> 1) (by simp), stp_even ((((v >>> 4) <<< 4) >>> 1) >>> 1) (by simp), stp_even (((((v >>> 4) <<< 4) >>> 1) >>> 1) >>> 1) (by simp)]
  apply BitVec.eq_of_getLsbD_eq
  intro i hi
  simp only [BitVec.getLsbD_ushiftRight, BitVec.getLsbD_shiftLeft]
  by_cases h : 1 + (1 + (1 + (1 + i))) < 32
  · have : ¬ 1 + (1 + (1 + (1 + i))) < 4 := by omega
    simp [h, this]; congr 1; omega
  · simp [h]
    rw [BitVec.getLsbD_of_ge]; omega
theorem split4 (v : BitVec 32) : ((v >>> 4) <<< 4) ^^^ (v &&& 15#32) = v := by
  apply BitVec.eq_of_getLsbD_eq
  intro i hi
  simp only [BitVec.getLsbD_xor, BitVec.getLsbD_and, BitVec.getLsbD_shiftLeft, BitVec.getLsbD_ushiftRight]
  have h15 : (15#32).getLsbD i = decide (i < 4) := by
    have : ∀ i, i < 32 → (15#32).getLsbD i = decide (i < 4) := by decide
    exact this i hi
  rw [h15]
  by_cases h : i < 4
  · simp [h]
  · simp [h, hi, show 4 + (i - 4) = i by omega]
theorem nib_eq (v : BitVec 32) : nib v = stpN 4 v := by
  rw [nib, ← stpN4_hi, ← stpN_xor, split4]
theorem nib2 (v : BitVec 32) : nib (nib v) = stpN 8 v := by rw [nib_eq, nib_eq, ← stpN_add]

/-- One byte; all bytes. -/
def crcB (v : BitVec 32) (c : UInt8) : BitVec 32 := stpN 8 (v ^^^ c32 c)
def crcF (v : BitVec 32) (l : List UInt8) : BitVec 32 := l.foldl crcB v
def crc (l : List UInt8) : BitVec 32 := ~~~ (crcF 0xFFFFFFFF#32 l)
theorem crcF_snoc (v : BitVec 32) (l : List UInt8) (c : UInt8) : crcF v (l ++ [c]) = crcB (crcF v l) c := by simp [crcF]
theorem take_snoc {α : Type} (l : List α) (k : Nat) (c : α) (h : l[k]? = some c) : l.take (k + 1) = l.take k ++ [c] := by
  rw [List.take_add_one, h]; rfl

/-! The walk's own spellings of the bits. -/
theorem bv_xor (x y : BitVec 32) : bits .xor .u32 (x.toNat : Int) (y.toNat : Int) = ((x ^^^ y).toNat : Int) := by
  have hx := x.isLt
  have hy := y.isLt
  rw [u32_xor _ _ (by omega) (by omega) (by omega) (by omega)]; simp
theorem bv_and (x y : BitVec 32) : bits .and .u32 (x.toNat : Int) (y.toNat : Int) = ((x &&& y).toNat : Int) := by
  have hx := x.isLt
  have hy := y.isLt
  rw [u32_and _ _ (by omega) (by omega) (by omega) (by omega)]; simp
theorem bv_and1 (x : BitVec 32) : bits .and .u32 (x.toNat : Int) 1 = ((x &&& 1#32).toNat : Int) := bv_and x 1#32
theorem bv_and15 (x : BitVec 32) : bits .and .u32 (x.toNat : Int) 15 = ((x &&& 15#32).toNat : Int) := bv_and x 15#32
theorem bv_shr (x : BitVec 32) (n : Nat) : ((x.toNat : Int) / 2 ^ n) = ((x >>> n).toNat : Int) := by
  rw [BitVec.toNat_ushiftRight, Nat.shiftRight_eq_div_pow]; simp
theorem bv_not (x : BitVec 32) : bits .xor .u32 4294967295 (x.toNat : Int) = ((~~~x).toNat : Int) := by
  have h := bv_xor (BitVec.allOnes 32) x
  rw [BitVec.allOnes_xor] at h
  exact h
/-- One nibble as the walk spells it: the index, the number in the table, the result. -/
theorem nib_walk (y : BitVec 32) : ∃ (i : Nat) (t z : BitVec 32), i < 16 ∧ bits .and .u32 (y.toNat : Int) 15 = (i : Int) ∧ t = stpN 4 (BitVec.ofNat 32 i) ∧
    bits .xor .u32 ((y.toNat : Int) / 16) (t.toNat : Int) = (z.toNat : Int) ∧ z = nib y := by
  refine ⟨(y &&& 15#32).toNat, _, nib y, ?_, bv_and15 y, rfl, ?_, rfl⟩
  · rw [BitVec.toNat_and]; exact Nat.lt_of_le_of_lt Nat.and_le_right (by decide)
  · have e := bv_shr y 4
    rw [show (2 : Int) ^ 4 = 16 by decide] at e
    rw [e, bv_xor, nib]
    congr 3
    simp
theorem bv_c32 (c : UInt8) : ((c.toNat : Int) % 4294967296) = ((c32 c).toNat : Int) := by
  have := c.toNat_lt
  simp [c32]
  omega
theorem stp_if (v : BitVec 32) : stp v = if v &&& 1#32 = 1#32 then (v >>> 1) ^^^ 0x82F63B78#32 else v >>> 1 := by
  have e : v &&& 1#32 = 1#32 ↔ v.getLsbD 0 = true := by
    rw [← BitVec.toNat_inj, BitVec.toNat_and]
    simp [BitVec.getLsbD, Nat.testBit_zero]
  unfold stp
  by_cases c : v &&& 1#32 = 1#32
  · rw [if_pos c, if_pos (e.1 c)]
  · rw [if_neg c, if_neg (fun h => c (e.2 h))]; simp
theorem stp_walk (v : BitVec 32) : ((stp v).toNat : Int) = if (bits .and .u32 (v.toNat : Int) 1 == 1) = true then bits .xor .u32 ((v.toNat : Int) / 2) 2197175160 else (v.toNat : Int) / 2 := by
  rw [bv_and1, stp_if]
  have e2 : ((↑(v &&& 1#32).toNat : Int) == 1) = true ↔ v &&& 1#32 = 1#32 := by
    rw [beq_iff_eq, ← BitVec.toNat_inj]; simp; omega
  have e3 := bv_shr v 1
  rw [Int.pow_one] at e3
  by_cases c : v &&& 1#32 = 1#32
  · rw [if_pos (e2.2 c), if_pos c, e3]
    exact (bv_xor (v >>> 1) 0x82F63B78#32).symm
  · rw [if_neg (fun h => c (e2.1 h)), if_neg c, e3]

/-! Linear. -/
theorem c32_xor (a b : UInt8) : c32 (a ^^^ b) = c32 a ^^^ c32 b := by simp [c32, UInt8.toBitVec_xor, BitVec.setWidth_xor]
theorem crcB_xor (u v : BitVec 32) (a b : UInt8) : crcB (u ^^^ v) (a ^^^ b) = crcB u a ^^^ crcB v b := by
  unfold crcB
  rw [← stpN_xor, c32_xor]
  congr 1
  ac_rfl
/-- Strings of equal length, byte by byte. -/
def xorL (a b : List UInt8) : List UInt8 := List.zipWith (· ^^^ ·) a b
theorem crcF_xor : ∀ (a b : List UInt8) (u v : BitVec 32), a.length = b.length → crcF (u ^^^ v) (xorL a b) = crcF u a ^^^ crcF v b
  | [], [], _, _, _ => rfl
  | a :: la, b :: lb, u, v, h => by
    simp only [xorL, List.zipWith_cons_cons, crcF, List.foldl_cons]
    rw [crcB_xor]
    exact crcF_xor la lb _ _ (by simpa using h)
theorem xorL_length (a b : List UInt8) (h : a.length = b.length) : (xorL a b).length = a.length := by simp [xorL, h]
theorem xorL_get {a b : List UInt8} {k : Nat} {x y : UInt8} (h1 : a[k]? = some x) (h2 : b[k]? = some y) : (xorL a b)[k]? = some (x ^^^ y) := by
  simp [xorL, List.getElem?_zipWith, h1, h2]
theorem crc_linear (a b c : List UInt8) (h1 : a.length = b.length) (h2 : b.length = c.length) : crc (xorL (xorL a b) c) = crc a ^^^ crc b ^^^ crc c := by
  unfold crc
  have e : (0xFFFFFFFF#32) = (0xFFFFFFFF#32 ^^^ 0xFFFFFFFF#32) ^^^ 0xFFFFFFFF#32 := by decide
  have h3 := crcF_xor (xorL a b) c (0xFFFFFFFF#32 ^^^ 0xFFFFFFFF#32) 0xFFFFFFFF#32 (by rw [xorL_length a b h1]; omega)
  have h4 := crcF_xor a b 0xFFFFFFFF#32 0xFFFFFFFF#32 h1
  rw [← e] at h3
  rw [h3, h4]
  generalize crcF 0xFFFFFFFF#32 a = x
  generalize crcF 0xFFFFFFFF#32 b = y
  generalize crcF 0xFFFFFFFF#32 c = z
  have n : ∀ x : BitVec 32, ~~~x = BitVec.allOnes 32 ^^^ x := fun x => BitVec.allOnes_xor.symm
  have hh : ∀ o : BitVec 32, o ^^^ (x ^^^ y ^^^ z) = (o ^^^ x) ^^^ (o ^^^ y) ^^^ (o ^^^ z) := fun o => by
    have : (o ^^^ x) ^^^ (o ^^^ y) ^^^ (o ^^^ z) = (o ^^^ o) ^^^ (o ^^^ (x ^^^ y ^^^ z)) := by ac_rfl
    rw [this, BitVec.xor_self, BitVec.zero_xor]
  rw [n, n x, n y, n z]
  exact hh _

/-- The i-th byte of a sum, the least significant first. -/
def byt (v : BitVec 32) (i : Nat) : UInt8 := UInt8.ofNat (v.toNat / 256 ^ i)
def le32 (v : BitVec 32) : List UInt8 := [byt v 0, byt v 1, byt v 2, byt v 3]
theorem byt0 (v : BitVec 32) : (v.toNat : Int) % 256 = ((byt v 0).toNat : Int) := by simp [byt, UInt8.toNat_ofNat']
theorem byt1 (v : BitVec 32) : (v.toNat : Int) / 256 % 256 = ((byt v 1).toNat : Int) := by simp [byt, UInt8.toNat_ofNat']
theorem byt2 (v : BitVec 32) : (v.toNat : Int) / 65536 % 256 = ((byt v 2).toNat : Int) := by simp [byt, UInt8.toNat_ofNat']
theorem byt3 (v : BitVec 32) : (v.toNat : Int) / 16777216 = ((byt v 3).toNat : Int) := by
  have := v.isLt
  simp [byt, UInt8.toNat_ofNat']
  omega
end Go.Proofs.Ytjpmfiicbokdcaa
namespace Go.Proofs.Ytjpmfiicbokdcaa
set_option linter.unusedVariables false

/-- A linear function. -/
def Lin (f : BitVec 32 → BitVec 32) : Prop := f 0#32 = 0#32 ∧ ∀ a b, f (a ^^^ b) = f a ^^^ f b
theorem lin_stpN (n : Nat) : Lin (stpN n) := ⟨stpN_zero n, fun a b => stpN_xor n a b⟩
/-- The bits below k. -/
def low : Nat → BitVec 32 → BitVec 32
  | 0, _ => 0#32
  | k + 1, v => low k v ^^^ (if v.getLsbD k then BitVec.twoPow 32 k else 0#32)
theorem low_get (v : BitVec 32) : ∀ k i, i < 32 → (low k v).getLsbD i = (decide (i < k) && v.getLsbD i)
  | 0, i, hi => by simp [low]
  | k + 1, i, hi => by
    unfold low
    rw [BitVec.getLsbD_xor, low_get v k i hi]
    by_cases e : i = k
    · subst e
      cases h : v.getLsbD i <;> simp [hi]
    · have : (if v.getLsbD k = true then BitVec.twoPow 32 k else 0#32).getLsbD i = false := by
        cases h : v.getLsbD k
        · simp
        · rw [if_pos rfl, BitVec.getLsbD_twoPow]; simp; omega
      rw [this]
      have h2 : decide (i < k + 1) = decide (i < k) := by
        rw [Bool.eq_iff_iff]; simp; omega
      rw [h2]; simp
theorem low_all (v : BitVec 32) (k : Nat) (h : v >>> k = 0#32) : low k v = v := by
  apply BitVec.eq_of_getLsbD_eq
  intro i hi
  rw [low_get v k i hi]
  by_cases hk : i < k
  · simp [hk]
  · have h1 : (v >>> k).getLsbD (i - k) = false := by rw [h]; simp
    rw [BitVec.getLsbD_ushiftRight, show k + (i - k) = i by omega] at h1
    simp [h1]
theorem shr_32 (v : BitVec 32) : v >>> 32 = 0#32 := by
  apply BitVec.eq_of_toNat_eq
  rw [BitVec.toNat_ushiftRight, Nat.shiftRight_eq_div_pow]
  have := v.isLt
  simp; omega
theorem shr_half (v : BitVec 32) (k : Nat) : ((v >>> k).toNat : Int) / 2 = ((v >>> (k + 1)).toNat : Int) := by
  rw [BitVec.toNat_ushiftRight, BitVec.toNat_ushiftRight, Nat.shiftRight_succ]; omega
theorem lin_low (f : BitVec 32 → BitVec 32) (hf : Lin f) (k : Nat) (v : BitVec 32) : f (low (k + 1) v) = if (v >>> k) &&& 1#32 = 1#32 then f (low k v) ^^^ f (BitVec.twoPow 32 k) else f (low k v) := by
  have e : (v >>> k) &&& 1#32 = 1#32 ↔ v.getLsbD k = true := by
    rw [← BitVec.toNat_inj, BitVec.toNat_and]
    simp [BitVec.getLsbD, Nat.testBit, Nat.and_comm]
  rw [show low (k + 1) v = low k v ^^^ (if v.getLsbD k then BitVec.twoPow 32 k else 0#32) from rfl, hf.2]
  by_cases c : (v >>> k) &&& 1#32 = 1#32
  · rw [if_pos c, if_pos (e.1 c)]
  · rw [if_neg c, if_neg (fun h => c (e.2 h)), hf.1]; simp
theorem stpN_mul (m : Nat) : ∀ n v, stpN (m * n) v = (Nat.repeat (stpN m) n v)
  | 0, v => by simp [stpN, Nat.repeat]
  | n + 1, v => by rw [Nat.mul_succ, Nat.add_comm, stpN_add, stpN_mul m n]; rfl
/-- The matrix of a function, its first k rows filled in. -/
def mat (f : BitVec 32 → BitVec 32) (k : Nat) : Array Value := ((List.range 32).map fun i => if i < k then Value.int .u32 ((f (BitVec.twoPow 32 i)).toNat : Int) else .int .u32 0).toArray
theorem mat_size (f : BitVec 32 → BitVec 32) (k : Nat) : (mat f k).size = 32 := by simp [mat]
theorem mat_get (f : BitVec 32 → BitVec 32) (k j : Nat) (hj : j < 32) : (mat f k)[j]? = some (if j < k then Value.int .u32 ((f (BitVec.twoPow 32 j)).toNat : Int) else .int .u32 0) := by
  simp [mat, hj]
theorem mat_set (f : BitVec 32 → BitVec 32) (k : Nat) : (mat f k).setIfInBounds k (.int .u32 ((f (BitVec.twoPow 32 k)).toNat : Int)) = mat f (k + 1) := by
  apply Array.ext_getElem?
  intro j
  rw [Array.getElem?_setIfInBounds]
  by_cases hj : j < 32
  · rw [mat_get _ _ _ hj, mat_get _ _ _ hj, mat_size]
    by_cases e : k = j
    · subst e; simp [hj]
    · rw [if_neg e]; congr 1
      by_cases h : j < k
      · rw [if_pos h, if_pos (by omega)]
      · rw [if_neg h, if_neg (by omega)]
  · rw [Array.getElem?_eq_none (by rw [mat_size]; omega), Array.getElem?_eq_none (by rw [mat_size]; omega), mat_size]
    split <;> simp; omega
theorem mat_one (f : BitVec 32 → BitVec 32) (k : Nat) : ∀ u ∈ (mat f k).toList, u.oneCell' = true := by
  intro u hu
  simp only [mat, List.toList_toArray, List.mem_map] at hu
  obtain ⟨i, _, rfl⟩ := hu
  split <;> rfl
/-- Zero bytes behind; the sum of two sums. -/
def zeros (n : Nat) (v : BitVec 32) : BitVec 32 := stpN (8 * n) v
def comb (x y : BitVec 32) (n : Nat) : BitVec 32 := zeros n x ^^^ y
theorem zeros_succ (n : Nat) (v : BitVec 32) : zeros (n + 1) v = stpN 8 (zeros n v) := by
  unfold zeros; rw [show 8 * (n + 1) = 8 + 8 * n by omega, stpN_add]
theorem zeros_add (m n : Nat) (v : BitVec 32) : zeros (m + n) v = zeros m (zeros n v) := by
  unfold zeros; rw [Nat.mul_add, stpN_add]
theorem zeros_xor (n : Nat) (a b : BitVec 32) : zeros n (a ^^^ b) = zeros n a ^^^ zeros n b := stpN_xor _ _ _
theorem comb_chain (x y z : BitVec 32) (i j : Nat) : comb (comb x y i) z j = comb x (comb y z j) (i + j) := by
  unfold comb
  rw [zeros_xor, ← zeros_add, Nat.add_comm j i, BitVec.xor_assoc]
theorem crcF_append (v : BitVec 32) (a b : List UInt8) : crcF v (a ++ b) = crcF (crcF v a) b := by simp [crcF]
theorem crcF_split : ∀ (b : List UInt8) (u v : BitVec 32), crcF (u ^^^ v) b = zeros b.length u ^^^ crcF v b
  | [], u, v => by simp [crcF, zeros, stpN]
  | c :: b, u, v => by
    simp only [crcF, List.foldl_cons, List.length_cons]
    have h := crcF_split b (stpN 8 u) (crcB v c)
    have e : crcB (u ^^^ v) c = stpN 8 u ^^^ crcB v c := by
      unfold crcB
      rw [← stpN_xor]; congr 1; ac_rfl
    rw [e]
    simp only [crcF] at h
    rw [h, zeros_succ]
    have : ∀ n, stpN 8 (zeros n u) = zeros n (stpN 8 u) := fun n => by
      unfold zeros; rw [← stpN_add, ← stpN_add, Nat.add_comm]
    rw [this]
theorem crc_append (a b : List UInt8) : crc (a ++ b) = comb (crc a) (crc b) b.length := by
  unfold crc comb
  have n : ∀ x : BitVec 32, ~~~x = BitVec.allOnes 32 ^^^ x := fun x => BitVec.allOnes_xor.symm
  rw [crcF_append, n (crcF (crcF _ a) b), n (crcF _ a), n (crcF _ b), zeros_xor]
  have h1 := crcF_split b (crcF 0xFFFFFFFF#32 a ^^^ BitVec.allOnes 32) (BitVec.allOnes 32)
  rw [BitVec.xor_assoc, BitVec.xor_self, BitVec.xor_zero, zeros_xor] at h1
  have e : (0xFFFFFFFF#32) = BitVec.allOnes 32 := by decide
  rw [e] at h1 ⊢
  rw [h1]
  generalize crcF (BitVec.allOnes 32) b = p
  generalize zeros b.length (crcF (BitVec.allOnes 32) a) = q
  generalize zeros b.length (BitVec.allOnes 32) = r
  generalize BitVec.allOnes 32 = o
  ac_rfl
theorem zeros_bit (n j : Nat) (x : BitVec 32) (h : n / 2 ^ j % 2 = 1) : zeros (n % 2 ^ (j + 1)) x = stpN (8 * 2 ^ j) (zeros (n % 2 ^ j) x) := by
  rw [Nat.mod_pow_succ, h, Nat.mul_one, Nat.add_comm, zeros_add]; rfl
theorem zeros_nobit (n j : Nat) (x : BitVec 32) (h : n / 2 ^ j % 2 = 0) : zeros (n % 2 ^ (j + 1)) x = zeros (n % 2 ^ j) x := by
  rw [Nat.mod_pow_succ, h, Nat.mul_zero, Nat.add_zero]
theorem stpN_twice (j : Nat) : (fun v => stpN (8 * 2 ^ j) (stpN (8 * 2 ^ j) v)) = stpN (8 * 2 ^ (j + 1)) := by
  funext v
  rw [← stpN_add]; congr 1
  rw [Nat.pow_succ]; omega
theorem half_pow (n j : Nat) : n / 2 ^ j / 2 = n / 2 ^ (j + 1) := by rw [Nat.div_div_eq_div_mul, Nat.pow_succ]
theorem twoPow_int (k : Nat) : (2 : Int) ^ k % 4294967296 = ((BitVec.twoPow 32 k).toNat : Int) := by
  rw [BitVec.toNat_twoPow]; simp
end Go.Proofs.Ytjpmfiicbokdcaa
namespace Go.Proofs.Ytjpmfiicbokdcaa
set_option linter.unusedVariables false

def bt (b : Bool) : BitVec 32 := if b then 1#32 else 0#32
/-- The register, fed bit by bit. -/
def reg (f : Nat → Bool) (v : BitVec 32) : Nat → BitVec 32
  | 0 => v
  | k + 1 => stp (reg f v k ^^^ bt (f k))
theorem reg_add (f : Nat → Bool) (v : BitVec 32) (a : Nat) : ∀ b, reg f v (a + b) = reg (fun i => f (a + i)) (reg f v a) b
  | 0 => rfl
  | b + 1 => by show stp (reg f v (a + b) ^^^ _) = _; rw [reg_add f v a b]; rfl
theorem reg_congr {f g : Nat → Bool} (v : BitVec 32) : ∀ k, (∀ i, i < k → f i = g i) → reg f v k = reg g v k
  | 0, _ => rfl
  | k + 1, h => by simp only [reg]; rw [reg_congr v k (fun i hi => h i (by omega)), h k (by omega)]
theorem stpN_shr (v : BitVec 32) : ∀ n, (∀ i, i < n → v.getLsbD i = false) → stpN n v = v >>> n
  | 0, _ => by simp [stpN]
  | n + 1, h => by
    show stp (stpN n v) = _
    rw [stpN_shr v n (fun i hi => h i (by omega)), stp_even _ (by rw [BitVec.getLsbD_ushiftRight]; exact h n (by omega))]
    rw [BitVec.shiftRight_add]
theorem stpN_two (k : Nat) (h : k < 32) : stpN k (BitVec.twoPow 32 k) = 1#32 := by
  rw [stpN_shr _ k (fun i hi => by rw [BitVec.getLsbD_twoPow]; simp; omega)]
  apply BitVec.eq_of_getLsbD_eq
  intro i hi
  rw [BitVec.getLsbD_ushiftRight, BitVec.getLsbD_twoPow]
  have : (1#32).getLsbD i = decide (i = 0) := by
    have : ∀ i, i < 32 → (1#32).getLsbD i = decide (i = 0) := by decide
    exact this i hi
  rw [this]
  simp [h]
theorem reg_low (f : Nat → Bool) (v u : BitVec 32) : ∀ k, k ≤ 32 → (∀ i, i < k → f i = u.getLsbD i) → reg f v k = stpN k (v ^^^ low k u)
  | 0, _, _ => by simp [reg, stpN, low]
  | k + 1, hk, h => by
    have ih := reg_low f v u k (by omega) (fun i hi => h i (by omega))
    have e : bt (f k) = stpN k (if u.getLsbD k then BitVec.twoPow 32 k else 0#32) := by
      rw [h k (by omega)]
      cases u.getLsbD k
      · simp [bt, stpN_zero]
      · simp [bt, stpN_two k (by omega)]
    show stp (reg f v k ^^^ bt (f k)) = stp (stpN k (v ^^^ low (k + 1) u))
    rw [ih, e, ← stpN_xor]
    congr 2
    show v ^^^ low k u ^^^ _ = v ^^^ (low k u ^^^ _)
    rw [BitVec.xor_assoc]
theorem reg_zero (f : Nat → Bool) (v : BitVec 32) : ∀ k, (∀ i, i < k → f i = false) → reg f v k = stpN k v
  | 0, _ => rfl
  | k + 1, h => by
    show stp (reg f v k ^^^ bt (f k)) = stp (stpN k v)
    rw [reg_zero f v k (fun i hi => h i (by omega)), h k (by omega)]
    simp [bt]
theorem stp_ne (v : BitVec 32) (h : stp v = 0#32) : v = 0#32 := by
  unfold stp at h
  cases hb : v.getLsbD 0
  · rw [hb] at h
    simp at h
    apply BitVec.eq_of_getLsbD_eq
    intro i hi
    rcases i with _ | i
    · simpa using hb
    · have : (v >>> 1).getLsbD i = false := by rw [h]; simp
      rw [BitVec.getLsbD_ushiftRight, Nat.add_comm] at this
      simpa using this
  · rw [hb, if_pos rfl] at h
    have : (v >>> 1 ^^^ 0x82F63B78#32).getLsbD 31 = false := by rw [h]; simp
    rw [BitVec.getLsbD_xor, BitVec.getLsbD_ushiftRight, BitVec.getLsbD_of_ge v (1 + 31) (by omega)] at this
    exact absurd this (by decide)
theorem stpN_ne (v : BitVec 32) : ∀ n, stpN n v = 0#32 → v = 0#32
  | 0, h => h
  | n + 1, h => stpN_ne v n (stp_ne _ h)

/-- The j-th bit of some bytes. -/
def bitAt (l : List UInt8) (j : Nat) : Bool := (l.getD (j / 8) 0).toNat.testBit (j % 8)
theorem c32_bit (c : UInt8) (i : Nat) (h : i < 8) : (c32 c).getLsbD i = c.toNat.testBit i := by
  unfold c32
  rw [BitVec.getLsbD_setWidth]
  simp [BitVec.getLsbD, show i < 32 by omega]
theorem c32_low (c : UInt8) : low 8 (c32 c) = c32 c := by
  apply low_all
  apply BitVec.eq_of_getLsbD_eq
  intro i hi
  rw [BitVec.getLsbD_ushiftRight]
  unfold c32
  rw [BitVec.getLsbD_setWidth, BitVec.getLsbD_of_ge _ _ (by omega)]
  simp
theorem crcB_reg (v : BitVec 32) (c : UInt8) (f : Nat → Bool) (h : ∀ i, i < 8 → f i = c.toNat.testBit i) : crcB v c = reg f v 8 := by
  rw [reg_low f v (c32 c) 8 (by omega) (fun i hi => by rw [c32_bit c i hi]; exact h i hi), c32_low]
  rfl
theorem crcF_reg : ∀ (l : List UInt8) (v : BitVec 32), crcF v l = reg (bitAt l) v (8 * l.length)
  | [], v => rfl
  | c :: l, v => by
    show crcF (crcB v c) l = _
    rw [crcF_reg l (crcB v c), crcB_reg v c (bitAt (c :: l)) (fun i hi => by simp [bitAt, Nat.div_eq_of_lt hi, Nat.mod_eq_of_lt hi])]
    rw [List.length_cons, show 8 * (l.length + 1) = 8 + 8 * l.length by omega, reg_add]
    apply reg_congr
    intro i _
    show bitAt l i = bitAt (c :: l) (8 + i)
    unfold bitAt
    rw [show (8 + i) / 8 = i / 8 + 1 by omega, show (8 + i) % 8 = i % 8 by omega]
    rfl

/-- A burst: bits of 'pat' from 'at_' on, and none besides. -/
theorem burst_ne (D : List UInt8) (at_ m : Nat) (pat : BitVec 32) (hm : m ≤ 32) (hT : at_ + m ≤ 8 * D.length)
    (hb : ∀ j, j < 8 * D.length → bitAt D j = (decide (at_ ≤ j ∧ j < at_ + m) && pat.getLsbD (j - at_))) (hne : low m pat ≠ 0#32) : crcF 0#32 D ≠ 0#32 := by
  intro h
  rw [crcF_reg, show 8 * D.length = at_ + (m + (8 * D.length - at_ - m)) by omega, reg_add, reg_add] at h
  rw [reg_zero (bitAt D) 0#32 at_ (fun i hi => by rw [hb i (by omega)]; simp; omega), stpN_zero] at h
  rw [reg_zero _ _ (8 * D.length - at_ - m) (fun i hi => by rw [hb _ (by omega)]; simp; omega)] at h
  have h1 := stpN_ne _ _ h
  rw [reg_low _ _ pat m hm (fun i hi => by rw [hb _ (by omega)]; simp [hi])] at h1
  have h2 := stpN_ne _ _ h1
  rw [BitVec.zero_xor] at h2
  exact hne h2

theorem xorL_app (a b c d : List UInt8) (h : a.length = c.length) : xorL (a ++ b) (c ++ d) = xorL a c ++ xorL b d := by
  unfold xorL
  rw [List.zipWith_append h]
theorem byt_xor (a b : BitVec 32) (i : Nat) : byt a i ^^^ byt b i = byt (a ^^^ b) i := by
  apply UInt8.toNat_inj.1
  unfold byt
  rw [UInt8.toNat_xor, UInt8.toNat_ofNat', UInt8.toNat_ofNat', UInt8.toNat_ofNat', BitVec.toNat_xor]
  rw [show (256 : Nat) ^ i = 2 ^ (8 * i) by rw [show (256 : Nat) = 2 ^ 8 by decide, ← Nat.pow_mul]]
  apply Nat.eq_of_testBit_eq
  intro j
  simp only [Nat.testBit_xor, Nat.testBit_mod_two_pow, Nat.testBit_div_two_pow]
  by_cases hj : j < 8 <;> simp [hj]
theorem byt_shift (z : BitVec 32) (i : Nat) : byt (z >>> 8) i = byt z (i + 1) := by
  unfold byt
  rw [BitVec.toNat_ushiftRight, Nat.shiftRight_eq_div_pow, Nat.div_div_eq_div_mul, Nat.pow_succ 256 i, Nat.mul_comm (256 ^ i) 256]
theorem crcB_own (z : BitVec 32) : crcB z (byt z 0) = z >>> 8 := by
  have hlow : ∀ i, i < 8 → (z ^^^ c32 (byt z 0)).getLsbD i = false := by
    intro i hi
    rw [BitVec.getLsbD_xor, c32_bit _ i hi]
    unfold byt
    rw [UInt8.toNat_ofNat', Nat.testBit_mod_two_pow]
    simp [hi, BitVec.getLsbD]
  unfold crcB
  rw [stpN_shr _ 8 hlow]
  apply BitVec.eq_of_getLsbD_eq
  intro i hi
  rw [BitVec.getLsbD_ushiftRight, BitVec.getLsbD_ushiftRight, BitVec.getLsbD_xor]
  have : (c32 (byt z 0)).getLsbD (8 + i) = false := by
    unfold c32
    rw [BitVec.getLsbD_setWidth, BitVec.getLsbD_of_ge _ _ (by omega)]
    simp
  rw [this]; simp
theorem crcF_own (z : BitVec 32) : crcF z (le32 z) = 0#32 := by
  show crcB (crcB (crcB (crcB z (byt z 0)) (byt z 1)) (byt z 2)) (byt z 3) = _
  rw [crcB_own, ← byt_shift z 0, crcB_own, ← byt_shift z 1, ← byt_shift (z >>> 8) 0, crcB_own, ← byt_shift z 2, ← byt_shift (z >>> 8) 1, ← byt_shift (z >>> 8 >>> 8) 0, crcB_own]
  rw [← BitVec.shiftRight_add, ← BitVec.shiftRight_add, ← BitVec.shiftRight_add]
  exact shr_32 z
/-- If both strings bear their sums, the sum of the difference is 0. -/
theorem sealed_diff (p p' : List UInt8) (h : p.length = p'.length) : crcF 0#32 (xorL (p ++ le32 (crc p)) (p' ++ le32 (crc p'))) = 0#32 := by
  rw [xorL_app _ _ _ _ h]
  have e : xorL (le32 (crc p)) (le32 (crc p')) = le32 (crc p ^^^ crc p') := by
    show [byt (crc p) 0 ^^^ byt (crc p') 0, byt (crc p) 1 ^^^ byt (crc p') 1, byt (crc p) 2 ^^^ byt (crc p') 2, byt (crc p) 3 ^^^ byt (crc p') 3] = _
    rw [byt_xor, byt_xor, byt_xor, byt_xor]
    rfl
  rw [e]
  unfold crcF
  rw [List.foldl_append]
  have e2 : (xorL p p').foldl crcB 0#32 = crc p ^^^ crc p' := by
    have := crcF_xor p p' 0xFFFFFFFF#32 0xFFFFFFFF#32 h
    rw [BitVec.xor_self] at this
    unfold crcF at this
    rw [this]
    unfold crc crcF
    apply BitVec.eq_of_getLsbD_eq
    intro i hi
    simp [hi]
  rw [e2]
  exact crcF_own _
theorem u8_testBit_xor (x y : UInt8) (t : Nat) : (x ^^^ y).toNat.testBit t = (x.toNat.testBit t ^^ y.toNat.testBit t) := by
  rw [UInt8.toNat_xor, Nat.testBit_xor]
theorem bitAt_xor (a b : List UInt8) (h : a.length = b.length) (j : Nat) : bitAt (xorL a b) j = (bitAt a j ^^ bitAt b j) := by
  unfold bitAt
  rw [← u8_testBit_xor]
  congr 2
  unfold xorL
  by_cases hj : j / 8 < a.length
  · simp [List.getD, List.getElem?_zipWith, hj, show j / 8 < b.length by omega]
  · simp [List.getD, List.getElem?_zipWith, hj, show ¬ j / 8 < b.length by omega]
/-- One bit turned. -/
def one8 (a : Nat) : UInt8 := UInt8.ofNat (2 ^ a)
theorem one8_bit (a t : Nat) (h : a < 8) : (one8 a).toNat.testBit t = decide (a = t) := by
  unfold one8
  rw [UInt8.toNat_ofNat', Nat.mod_eq_of_lt (Nat.pow_lt_pow_right (by omega) h), Nat.testBit_two_pow]
theorem bitAt_set (l : List UInt8) (j i : Nat) (x : UInt8) (hx : l[j / 8]? = some x) : bitAt (l.set (j / 8) (x ^^^ one8 (j % 8))) i = (bitAt l i ^^ decide (i = j)) := by
  have hj : j / 8 < l.length := (List.getElem?_eq_some_iff.1 hx).1
  unfold bitAt
  by_cases h : i / 8 = j / 8
  · rw [h]
    simp only [List.getD, hx, List.getElem?_set_self hj, Option.getD_some]
    rw [u8_testBit_xor, one8_bit _ _ (by omega)]
    congr 1
    rw [decide_eq_decide]
    omega
  · simp only [List.getD]
    rw [List.getElem?_set_ne (fun e => h e.symm)]
    have : decide (i = j) = false := by simp; intro e; subst e; exact h rfl
    rw [this]; simp
/-- What the loop holds: the bits from 'at_' on, as many as i, are turned as the pattern says. -/
def Turned (l0 l : List UInt8) (at_ i : Nat) (pat : BitVec 32) : Prop :=
  l.length = l0.length ∧ ∀ j, bitAt l j = (bitAt l0 j ^^ (decide (at_ ≤ j ∧ j < at_ + i) && pat.getLsbD (j - at_)))
theorem Turned.zero (l : List UInt8) (at_ : Nat) (pat : BitVec 32) : Turned l l at_ 0 pat := ⟨rfl, fun j => by
  have : decide (at_ ≤ j ∧ j < at_ + 0) = false := by simp
  rw [this]; simp⟩
theorem Turned.no {l0 l : List UInt8} {at_ i : Nat} {pat : BitVec 32} (h : Turned l0 l at_ i pat) (hb : pat.getLsbD i = false) : Turned l0 l at_ (i + 1) pat := by
  refine ⟨h.1, fun j => ?_⟩
  rw [h.2 j]
  congr 1
  by_cases e : j = at_ + i
  · subst e; simp [hb]
  · congr 1; rw [decide_eq_decide]; omega
theorem Turned.yes {l0 l : List UInt8} {at_ i : Nat} {pat : BitVec 32} (h : Turned l0 l at_ i pat) (hb : pat.getLsbD i = true) {x : UInt8} (hx : l[(at_ + i) / 8]? = some x) :
    Turned l0 (l.set ((at_ + i) / 8) (x ^^^ one8 ((at_ + i) % 8))) at_ (i + 1) pat := by
  refine ⟨by simpa using h.1, fun j => ?_⟩
  rw [bitAt_set l _ j x hx, h.2 j]
  by_cases e : j = at_ + i
  · subst e; simp [hb]
  · have h1 : decide (at_ ≤ j ∧ j < at_ + (i + 1)) = decide (at_ ≤ j ∧ j < at_ + i) := by rw [decide_eq_decide]; omega
    rw [h1]; simp [e]
theorem low_no {i : Nat} {pat : BitVec 32} (hb : pat.getLsbD i = false) : low (i + 1) pat = low i pat := by
  show low i pat ^^^ _ = _
  rw [hb]; simp
theorem low_yes {i : Nat} {pat : BitVec 32} (hi : i < 32) (hb : pat.getLsbD i = true) : low (i + 1) pat ≠ 0#32 := by
  intro h
  have h1 := low_get pat (i + 1) i hi
  rw [h, hb] at h1
  simp at h1
/-- What the law says. -/
theorem burst_law (p p' q' : List UInt8) (at_ m : Nat) (pat : BitVec 32) (hm : m ≤ 32) (hT : at_ + m ≤ 8 * (p.length + 4)) (hp : p'.length = p.length) (hq : q'.length = 4)
    (ht : Turned (p ++ le32 (crc p)) (p' ++ q') at_ m pat) (hne : low m pat ≠ 0#32) : le32 (crc p') ≠ q' := by
  intro h
  subst h
  have hl : (p ++ le32 (crc p)).length = (p' ++ le32 (crc p')).length := ht.1.symm
  have hlen : (xorL (p ++ le32 (crc p)) (p' ++ le32 (crc p'))).length = p.length + 4 := by rw [xorL_length _ _ hl]; simp [le32]
  refine burst_ne (xorL (p ++ le32 (crc p)) (p' ++ le32 (crc p'))) at_ m pat hm (by rw [hlen]; omega) (fun j hj => ?_) hne (sealed_diff p p' hp.symm)
  rw [bitAt_xor _ _ hl, ht.2 j]
  generalize bitAt (p ++ le32 (crc p)) j = x
  generalize (decide (at_ ≤ j ∧ j < at_ + m) && pat.getLsbD (j - at_)) = y
  cases x <;> cases y <;> rfl
end Go.Proofs.Ytjpmfiicbokdcaa
namespace Go.Proofs.Ytjpmfiicbokdcaa
set_option linter.unusedVariables false

/-- Four bytes as a number, the most significant first; and back. -/
def be4 (a b c d : UInt8) : Nat := a.toNat * 16777216 + b.toNat * 65536 + c.toNat * 256 + d.toNat
def be4L (n : Nat) : List UInt8 := [UInt8.ofNat (n / 16777216), UInt8.ofNat (n / 65536), UInt8.ofNat (n / 256), UInt8.ofNat n]
theorem be4_lt (a b c d : UInt8) : be4 a b c d < 4294967296 := by
  have := a.toNat_lt
  have := b.toNat_lt
  have := c.toNat_lt
  have := d.toNat_lt
  unfold be4; omega
theorem be4_be4L (n : Nat) (h : n < 4294967296) : be4 (UInt8.ofNat (n / 16777216)) (UInt8.ofNat (n / 65536)) (UInt8.ofNat (n / 256)) (UInt8.ofNat n) = n := by
  unfold be4
  simp only [UInt8.toNat_ofNat']
  omega
theorem be4L_be4 (a b c d : UInt8) : be4L (be4 a b c d) = [a, b, c, d] := by
  have := a.toNat_lt
  have := b.toNat_lt
  have := c.toNat_lt
  have := d.toNat_lt
  have e : ∀ (x : UInt8) (n : Nat), n % 256 = x.toNat → UInt8.ofNat n = x := fun x n h => UInt8.toNat_inj.1 (by rw [UInt8.toNat_ofNat']; exact h)
  unfold be4L be4
  rw [e a _ (by omega), e b _ (by omega), e c _ (by omega), e d _ (by omega)]
theorem be4L_length (n : Nat) : (be4L n).length = 4 := rfl

abbrev Rec := Int × List UInt8
/-- A record that may be written. -/
def okR (r : Rec) : Prop := (r.1 = 1 ∨ r.1 = 2) ∧ r.2.length ≤ 1048576
def kb (k : Int) : UInt8 := UInt8.ofNat k.toNat
def crcN (l : List UInt8) : Nat := (crc l).toNat
theorem crcN_lt (l : List UInt8) : crcN l < 4294967296 := (crc l).isLt
/-- The bytes of a record. -/
def encR (r : Rec) : List UInt8 := be4L r.2.length ++ (be4L (crcN (kb r.1 :: r.2)) ++ (kb r.1 :: r.2))
theorem encR_length (r : Rec) : (encR r).length = 9 + r.2.length := by simp [encR, be4L]; omega
def encL (l : List Rec) : List UInt8 := l.flatMap encR
theorem encL_cons (r : Rec) (l : List Rec) : encL (r :: l) = encR r ++ encL l := rfl
theorem encL_app (l m : List Rec) : encL (l ++ m) = encL l ++ encL m := by simp [encL]
theorem encL_nil : encL [] = [] := rfl
theorem encL_snoc (l : List Rec) (r : Rec) : encL (l ++ [r]) = encL l ++ encR r := by rw [encL_app]; simp [encL]
/-- The record at the beginning. -/
def chkM (n c : Nat) (k : UInt8) (t : List UInt8) : Option Rec :=
  if n ≤ 1048576 ∧ n ≤ t.length ∧ (k = 1 ∨ k = 2) ∧ crcN (k :: t.take n) = c then some ((k.toNat : Int), t.take n) else none
theorem chkM_some {n c : Nat} {k : UInt8} {t : List UInt8} {r : Rec} (h : chkM n c k t = some r) : n ≤ 1048576 ∧ n ≤ t.length ∧ (k = 1 ∨ k = 2) ∧ crcN (k :: t.take n) = c ∧ r = ((k.toNat : Int), t.take n) := by
  unfold chkM at h
  by_cases hc : n ≤ 1048576 ∧ n ≤ t.length ∧ (k = 1 ∨ k = 2) ∧ crcN (k :: t.take n) = c
  · rw [if_pos hc] at h
    injection h with h
    exact ⟨hc.1, hc.2.1, hc.2.2.1, hc.2.2.2, h.symm⟩
  · rw [if_neg hc] at h
    cases h
def nextM : List UInt8 → Option Rec
  | a :: b :: c :: d :: e :: f :: g :: h :: k :: t => chkM (be4 a b c d) (be4 e f g h) k t
  | _ => none
theorem kb_of (k : UInt8) : kb (k.toNat : Int) = k := by simp [kb]
theorem byte12 {k : UInt8} (h : k = 1 ∨ k = 2) : (k.toNat : Int) = 1 ∨ (k.toNat : Int) = 2 := by
  rcases h with h | h
  · left; rw [h]; decide
  · right; rw [h]; decide
theorem parse_enc {n m : Nat} {k : UInt8} {t : List UInt8} {a b c d e f g h : UInt8} (hn : be4L n = [a, b, c, d]) (hm : be4L m = [e, f, g, h]) (h2 : n ≤ t.length) (h4 : crcN (k :: t.take n) = m) :
    a :: b :: c :: d :: e :: f :: g :: h :: k :: t = encR ((k.toNat : Int), t.take n) ++ t.drop n := by
  have hl : (t.take n).length = n := by simp; omega
  have e1 : encR ((k.toNat : Int), t.take n) = [a, b, c, d] ++ ([e, f, g, h] ++ (k :: t.take n)) := by
    unfold encR
    rw [kb_of, hl, h4, hn, hm]
  rw [e1]
  simp only [List.cons_append, List.nil_append, List.take_append_drop]
theorem nextM_some {s : List UInt8} {r : Rec} (h : nextM s = some r) : okR r ∧ ∃ t, s = encR r ++ t := by
  unfold nextM at h
  split at h
  · rename_i a b c d e f g h' k t
    obtain ⟨h1, h2, h3, h4, rfl⟩ := chkM_some h
    clear h
    have hp := parse_enc (be4L_be4 a b c d) (be4L_be4 e f g h') h2 h4
    generalize be4 a b c d = n at *
    refine ⟨⟨byte12 h3, Nat.le_trans (Nat.le_of_eq (List.length_take_of_le h2)) h1⟩, t.drop n, hp⟩
  · cases h
theorem nextM_enc {r : Rec} (hr : okR r) (t : List UInt8) : nextM (encR r ++ t) = some r := by
  obtain ⟨k, p⟩ := r
  obtain ⟨h1, h2⟩ := hr
  simp only at h1 h2
  have e : encR (k, p) ++ t = UInt8.ofNat (p.length / 16777216) :: UInt8.ofNat (p.length / 65536) :: UInt8.ofNat (p.length / 256) :: UInt8.ofNat p.length ::
      UInt8.ofNat (crcN (kb k :: p) / 16777216) :: UInt8.ofNat (crcN (kb k :: p) / 65536) :: UInt8.ofNat (crcN (kb k :: p) / 256) :: UInt8.ofNat (crcN (kb k :: p)) :: kb k :: (p ++ t) := by
    simp [encR, be4L]
  rw [e]
  unfold nextM
  simp only []
  rw [be4_be4L _ (by omega), be4_be4L _ (crcN_lt _)]
  unfold chkM
  rw [List.take_left' rfl, if_pos ⟨h2, by simp, by rcases h1 with rfl | rfl <;> simp [kb], rfl⟩]
  rcases h1 with rfl | rfl <;> rfl
/-- What the scan of a file is. -/
structure IsScan (s : List UInt8) (l : List Rec) (rest : List UInt8) : Prop where
  eq : s = encL l ++ rest
  ok : ∀ r ∈ l, okR r
  stop : nextM rest = none
theorem IsScan.uniq : ∀ {l m : List Rec} {s x y : List UInt8}, IsScan s l x → IsScan s m y → l = m ∧ x = y
  | [], [], s, x, y, h, g => ⟨rfl, by rw [← List.nil_append x, ← List.nil_append y]; exact h.eq.symm.trans g.eq⟩
  | [], r :: m, s, x, y, h, g => by
    have h1 := h.eq
    rw [encL_nil, List.nil_append] at h1
    have := nextM_enc (g.ok r (by simp)) (encL m ++ y)
    rw [← List.append_assoc, ← encL_cons, ← g.eq, h1, h.stop] at this
    cases this
  | r :: l, [], s, x, y, h, g => by
    have h1 := g.eq
    rw [encL_nil, List.nil_append] at h1
    have := nextM_enc (h.ok r (by simp)) (encL l ++ x)
    rw [← List.append_assoc, ← encL_cons, ← h.eq, h1, g.stop] at this
    cases this
  | r :: l, q :: m, s, x, y, h, g => by
    have h1 := nextM_enc (h.ok r (by simp)) (encL l ++ x)
    have h2 := nextM_enc (g.ok q (by simp)) (encL m ++ y)
    rw [← List.append_assoc, ← encL_cons, ← h.eq] at h1
    rw [← List.append_assoc, ← encL_cons, ← g.eq, h1] at h2
    injection h2 with h2
    subst h2
    have h3 := h.eq.symm.trans g.eq
    rw [encL_cons, encL_cons, List.append_assoc, List.append_assoc] at h3
    have h4 := List.append_cancel_left h3
    have := IsScan.uniq (s := encL l ++ x) ⟨rfl, fun r' hr' => h.ok r' (by simp [hr']), h.stop⟩ ⟨h4, fun r' hr' => g.ok r' (by simp [hr']), g.stop⟩
    exact ⟨by rw [this.1], this.2⟩
/-- What stands behind the records. -/
def stateM (rest : List UInt8) : Nat :=
  if rest = [] then 0 else if rest.length < 9 ∨ rest.length < 9 + be4 (rest.getD 0 0) (rest.getD 1 0) (rest.getD 2 0) (rest.getD 3 0) ∨ rest.getLast? = some 0 then 1 else 2
end Go.Proofs.Ytjpmfiicbokdcaa
namespace Go.Proofs.Ytjpmfiicbokdcaa
open Go.RowKit
set_option linter.unusedVariables false
set_option linter.unusedSimpArgs false

/-- checksum.step: n bits 0. -/
theorem step_any (a m : Int) (v : BitVec 32) (n : Nat) (w : World) (ha : a = v.toNat) (hm : m = n) (hn : n ≤ 64) :
    Calls Try.prog 101 #[.int .u32 a, .int .i64 m] w fun e w' => e = .returned (.int .u32 ((stpN n v).toNat : Int)) ∧ w = w' := by
  subst ha hm
  go_enter Try.func101, Try.ntmps101
  go_wp2
  go_loop [0, 6] (fun x i => ∃ k : Nat, k ≤ n ∧ i = .int .i64 k ∧ x = .int .u32 ((stpN k v).toNat : Int)) (fun _ i => n - (intOf i).toNat)
  case atStart => exact ⟨0, Nat.zero_le _, rfl, rfl⟩
  case round =>
    obtain ⟨k, hk, rfl, rfl⟩ := hrel
    by_cases hlt : k < n
    · have H := hide (stp_walk (stpN k v))
      go_wp2
      all_goals
        go_round
        case rel => exact ⟨k + 1, by omega, by go_num, by show _ = Value.int .u32 ((stp (stpN k v)).toNat : Int); rw [H.out]; first | rw [if_pos ‹_›] | rw [if_neg (by simp [*])]⟩
        case measure => simp [intOf]; omega
    · go_wp2
      go_ret
      obtain rfl : k = n := by omega
      exact ⟨rfl, rfl⟩

/-- The table of checksum.Sum, its first k numbers filled in. -/
def tabA (k : Nat) : Array Value := ((List.range 16).map fun i => if i < k then Value.int .u32 ((stpN 4 (BitVec.ofNat 32 i)).toNat : Int) else .int .u32 0).toArray
theorem tabA_get (k j : Nat) (hj : j < 16) : (tabA k)[j]? = some (if j < k then Value.int .u32 ((stpN 4 (BitVec.ofNat 32 j)).toNat : Int) else .int .u32 0) := by
  simp [tabA, hj]
theorem tabA_set (k : Nat) : (tabA k).setIfInBounds k (.int .u32 ((stpN 4 (BitVec.ofNat 32 k)).toNat : Int)) = tabA (k + 1) := by
  apply Array.ext_getElem?
  intro j
  rw [Array.getElem?_setIfInBounds]
  have hs : ∀ k, (tabA k).size = 16 := fun k => by simp [tabA]
  by_cases hj : j < 16
  · rw [tabA_get _ _ hj, tabA_get _ _ hj, hs]
    by_cases e : k = j
    · subst e; simp [hj]
    · rw [if_neg e]; congr 1
      by_cases h : j < k
      · rw [if_pos h, if_pos (by omega)]
      · rw [if_neg h, if_neg (by omega)]
  · rw [Array.getElem?_eq_none (by rw [hs]; omega), Array.getElem?_eq_none (by rw [hs]; omega), hs]
    split <;> simp; omega
theorem tab_cell (w : World) (k j : Nat) (hj : j < 16) : (w.alloc (.cells (tabA k) 139)).cell? ⟨w.heap.size, j, none⟩ = some (if j < k then Value.int .u32 ((stpN 4 (BitVec.ofNat 32 j)).toNat : Int) else .int .u32 0) := by
  rw [cell_of_row _ _ j _ _ (0, 0) (heap_alloc_new w _), tabA_get k j hj]

/-- checksum.Sum. -/
theorem sum_any (a : Option Addr) (len cap : Nat) (l : List UInt8) (w : World) (hl : len = l.length) (hm : len ≤ 1000000) (hr : BRd w a l) :
    Calls Try.prog 95 #[.slice a len cap] w fun e w' => e = .returned (.int .u32 ((crc l).toNat : Int)) ∧ Below w.heap.size w w' := by
  have HL := hide hl
  have HR := hide hr
  clear hl hr
  go_enter Try.func95, Try.ntmps95
  go_wp2
  go_loopw [8] (fun i wr => ∃ k : Nat, k ≤ 16 ∧ i = .int .i64 k ∧ wr = w.alloc (.cells (tabA k) 139)) (fun i _ => 16 - (intOf i).toNat)
  case atStart => exact ⟨0, Nat.zero_le _, rfl, rfl⟩
  case round =>
    obtain ⟨k, hk, rfl, rfl⟩ := hrel
    by_cases hlt : k < 16
    · have hcell := tab_cell w k k hlt
      rw [if_neg (Nat.lt_irrefl k)] at hcell
      have EK := hide (show (k : Int) = ((BitVec.ofNat 32 k).toNat : Int) by simp; omega)
      go_wp2_with (go_at_call 101; refine (step_any _ _ (BitVec.ofNat 32 k) 4 _ EK.out (by omega) (by omega)).mono ?_; rintro e w' ⟨rfl, rfl⟩)
      go_roundw
      case rel => exact ⟨k + 1, by omega, by go_num, by rw [tabA_set]⟩
      case measure => simp [intOf]; omega
    · obtain rfl : k = 16 := by omega
      have HC := hide (fun j hj => tab_cell w 16 j hj)
      have HR1 := hide (HR.out.alloc (.cells (tabA 16) 139))
      generalize hW : w.alloc (.cells (tabA 16) 139) = W at HC HR1
      have HB : Below w.heap.size w W := by rw [← hW]; exact (Below.refl _ _).alloc (Nat.le_refl _) _
      clear hW HR
      go_wp2
      go_loop [5, 19] (fun x i => ∃ k : Nat, k ≤ len ∧ i = .int .i64 k ∧ x = .int .u32 ((crcF 0xFFFFFFFF#32 (l.take k)).toNat : Int)) (fun _ i => len - (intOf i).toNat)
      case atStart => exact ⟨0, Nat.zero_le _, rfl, rfl⟩
      case round =>
        obtain ⟨k, hk, rfl, rfl⟩ := hrel
        by_cases hlt2 : k < len
        · obtain ⟨b, o, c, rfl, hb, hlc, hc⟩ := HR1.out.at_ (k := k) (by rw [← HL.out]; exact hlt2)
          have HLC := hide hlc
          clear hlc
          have e1 := bv_c32 c
          generalize hx : crcF 0xFFFFFFFF#32 (l.take k) = x
          have HX := hide hx
          clear hx
          have e2 := bv_xor x (c32 c)
          generalize hy : x ^^^ c32 c = y at e2
          have HY := hide hy
          clear hy
          obtain ⟨i1, t1, z1, hi1, e3, ht1, e4, hz1⟩ := nib_walk y
          obtain ⟨i2, t2, z2, hi2, e5, ht2, e6, hz2⟩ := nib_walk z1
          have c1 := HC.out i1 hi1
          rw [if_pos hi1, ← ht1] at c1
          have c2 := HC.out i2 hi2
          rw [if_pos hi2, ← ht2] at c2
          have HZ : Hid (z2 = stpN 8 y) := by rw [hz2, hz1]; exact nib2 y
          clear ht1 ht2 hz1 hz2
          go_wp2
          go_round
          case rel => exact ⟨k + 1, by omega, by go_num, by rw [take_snoc l k c HLC.out, crcF_snoc, HX.out, crcB, HY.out, HZ.out]⟩
          case measure => simp [intOf]; omega
        · go_wp2
          go_ret
          obtain rfl : k = len := by omega
          exact ⟨ret_int (by rw [HL.out, List.take_length, crc]; exact bv_not _), HB⟩
end Go.Proofs.Ytjpmfiicbokdcaa
namespace Go.Proofs.Ytjpmfiicbokdcaa
open Go.RowKit
set_option linter.unusedVariables false
set_option linter.unusedSimpArgs false
theorem info_u8 : (Try.prog.info? 5).map (fun i => (i.zero, i.size, i.bytes)) = some (some (.int .u8 0), 1, 1) := by kernel_rfl
theorem u32_bor (a b : Nat) (ha : a < 4294967296) (hb : b < 4294967296) : bits .or .u32 (a : Int) (b : Int) = ((a ||| b : Nat) : Int) := by
  have hx : a ||| b < 2 ^ 32 := Nat.or_lt_two_pow (by omega) (by omega)
  have h : ∀ c : Nat, c < 4294967296 → (BitVec.ofInt 32 (c : Int)).toNat = c := fun c hc => by
    rw [BitVec.ofInt_natCast, BitVec.toNat_ofNat]; exact Nat.mod_eq_of_lt (by omega)
  show IntKind.u32.wrap ((BitVec.ofInt 32 (a : Int) ||| BitVec.ofInt 32 (b : Int)).toNat : Int) = _
  rw [BitVec.toNat_or, h a ha, h b hb, IntKind.wrap_u32]
  omega
theorem or_add (a b k : Nat) (hb : b < 2 ^ k) : (a * 2 ^ k) ||| b = a * 2 ^ k + b := by
  rw [Nat.mul_comm, Nat.two_pow_add_eq_or_of_lt hb]
theorem be4_bits (a b c d : UInt8) : bits .or .u32 (bits .or .u32 (bits .or .u32 ((a.toNat : Int) * 16777216) ((b.toNat : Int) * 65536)) ((c.toNat : Int) * 256)) (d.toNat : Int) = (be4 a b c d : Int) := by
  have ha := a.toNat_lt
  have hb := b.toNat_lt
  have hc := c.toNat_lt
  have hd := d.toNat_lt
  have e1 := u32_bor (a.toNat * 16777216) (b.toNat * 65536) (by omega) (by omega)
  rw [show a.toNat * 16777216 = (a.toNat) * 2 ^ 24 by rfl, or_add _ _ 24 (by omega)] at e1
  have e2 := u32_bor (a.toNat * 2 ^ 24 + b.toNat * 65536) (c.toNat * 256) (by omega) (by omega)
  rw [show a.toNat * 2 ^ 24 + b.toNat * 65536 = (a.toNat * 256 + b.toNat) * 2 ^ 16 by omega, or_add _ _ 16 (by omega)] at e2
  have e3 := u32_bor ((a.toNat * 256 + b.toNat) * 2 ^ 16 + c.toNat * 256) d.toNat (by omega) (by omega)
  rw [show (a.toNat * 256 + b.toNat) * 2 ^ 16 + c.toNat * 256 = (a.toNat * 65536 + b.toNat * 256 + c.toNat) * 2 ^ 8 by omega, or_add _ _ 8 (by omega)] at e3
  unfold be4
  rw [show ((a.toNat : Int) * 16777216) = ((a.toNat * 2 ^ 24 : Nat) : Int) by omega, show ((b.toNat : Int) * 65536) = ((b.toNat * 65536 : Nat) : Int) by omega, e1]
  rw [show ((c.toNat : Int) * 256) = ((c.toNat * 256 : Nat) : Int) by omega, show ((a.toNat * 2 ^ 24 + b.toNat * 65536 : Nat) : Int) = (((a.toNat * 256 + b.toNat) * 2 ^ 16 : Nat) : Int) by omega, e2]
  rw [show (((a.toNat * 256 + b.toNat) * 2 ^ 16 + c.toNat * 256 : Nat) : Int) = (((a.toNat * 65536 + b.toNat * 256 + c.toNat) * 2 ^ 8 : Nat) : Int) by omega, e3]
  omega
set_option maxRecDepth 100000 in
theorem get_any (S : ByteArray) (l : List UInt8) (a b c d : UInt8) (w : World) (hS : S = bstr l) (h0 : l[0]? = some a) (h1 : l[1]? = some b) (h2 : l[2]? = some c) (h3 : l[3]? = some d) :
    Calls Try.prog 62 #[.string S] w fun e w' => e = .returned (.int .u32 ((be4 a b c d : Nat) : Int)) ∧ Below w.heap.size w w' := by
  have g0 := str_get hS h0
  have g1 := str_get hS h1
  have g2 := str_get hS h2
  have g3 := str_get hS h3
  obtain ⟨m, hm⟩ : ∃ m, m = S.size := ⟨_, rfl⟩
  have hl : 3 < m := by rw [hm, str_size hS]; exact (List.getElem?_eq_some_iff.1 h3).1
  have l0 : 0 < m := by omega
  have l1 : (1 : Int) < m := by omega
  have l2 : (2 : Int) < m := by omega
  have l3 : (3 : Int) < m := by omega
  have hm' := hm.symm
  clear hm hS h0 h1 h2 h3
  have hbe := be4_bits a b c d
  have ha := a.toNat_lt
  have hb := b.toNat_lt
  have hc := c.toNat_lt
  have hd := d.toNat_lt
  go_enter Try.func62, Try.ntmps62
  go_wp2_with fail
  refine wp_region_K 17 (by kernel_rfl) (by kernel_rfl) (fun Q HQ => ?_)
  simp only [List.take_succ_cons, List.take_zero, List.map_cons, List.map_nil]
  repeat
    first | apply wpS_c rfl | apply wpS_gc rfl (guard_mk rfl rfl)
    focus
      intro ev wx hC hx
      (try simp [Op.operands, Call.operands, opndS, Slot.holds] at hx)
      go_simp
      try (first | exact rfl | exact ⟨Below.refl _ _, rfl⟩)
      done
    dsimp only [setS, List.set]
  refine wpS_nil (HQ _ fun w3 hC3 => ?_)
  simp only [closeS, List.drop_succ_cons, List.drop_zero, List.drop_nil]
  clear HQ
  go_wp2
  go_ret
  exact ⟨by rw [← hbe]; rfl, hC3.below⟩
theorem be4_parts (n : Nat) (h : n < 4294967296) : ∃ c3 c2 c1 c0 : UInt8, be4L n = [c3, c2, c1, c0] ∧ (n : Int) % 256 = (c0.toNat : Int) ∧ (n : Int) / 256 % 256 = (c1.toNat : Int) ∧ (n : Int) / 65536 % 256 = (c2.toNat : Int) ∧ (n : Int) / 16777216 = (c3.toNat : Int) := by
  refine ⟨_, _, _, _, rfl, ?_⟩
  simp only [UInt8.toNat_ofNat']
  omega
set_option maxRecDepth 100000 in
theorem jput_any (base : Nat) (v : Value) (n : Nat) (xs : List Value) (x : Int) (nn : Nat) (w : World) (hx : x = nn) (hn : nn < 4294967296) (hown : w.ownsRow base 5 1 v n xs) (hb : base ≤ w.heap.size) (hnl : n ≤ 100000000) :
    Calls Try.prog 83 #[v, .int .u32 x] w fun e w' => ∃ v' m, e = .returned v' ∧ m = n + 4 ∧ w'.ownsRow base 5 1 v' m (xs ++ (be4L nn).map u8v) ∧ w.grownBy w' v.ownBlock := by
  subst hx
  have HO := hide hown
  obtain ⟨c3, c2, c1, c0, hbe, b0, b1, b2, b3⟩ := be4_parts nn hn
  have HBE := hide hbe
  clear hown hbe
  obtain ⟨i0, hi0, hz0, hz1, hz2⟩ := info_parts info_u8
  go_enter Try.func83, Try.ntmps83
  go_wp2_with (at_builtin; go_loud (refine wpList_append_rd _ rfl (.tmp 5) (.tmp 17) 91 rfl base 5 i0 _ 1 1 Try.underlying91 hi0 hz0 hz1 hz2 rfl (by omega) v n xs rfl (HO.out.alloc _) _ 4 4 ([c3, c2, c1, c0].map u8v) rfl rfl (rd_lit _ _ _ _) (u8s_one _) (by simp only [maxLen]; omega) (by omega) (by simp; omega) ?_); intro v2 w2 hown2 hg2 hat2)
  go_ret
  exact ⟨v2, _, rfl, rfl, by rw [HBE.out]; exact hown2, (World.grownBy_alloc w _ _).trans hg2⟩
set_option maxRecDepth 100000 in
theorem jsum_any (S : ByteArray) (l : List UInt8) (w : World) (hS : S = bstr l) (hl : l.length ≤ 1000000) :
    Calls Try.prog 84 #[.string S] w fun e w' => e = .returned (.int .u32 ((crcN l : Nat) : Int)) ∧ Below w.heap.size w w' := by
  have k1 := fun (w : World) => run_bytes_of_string (P := Try.prog) w 9 91 5 S Try.underlying9 Try.underlying91 Try.underlying5
  have hrd := rd_str (w := w) hS (grownCap w S.size 0 5) 5 ((bytesRow S (grownCap w S.size 0 5)).size, (bytesRow S (grownCap w S.size 0 5)).size + 1)
  have hsz := str_size hS
  have HRD := hide hrd
  have HSZ := hide hsz
  clear hrd hsz hS
  go_enter Try.func84, Try.ntmps84
  go_wp2_with fail
  refine (sum_any _ _ _ l _ HSZ.out (by rw [HSZ.out]; exact hl) HRD.out).mono ?_
  rintro e w1 ⟨rfl, hb1⟩
  go_wp2_with fail
  go_ret
  exact ⟨rfl, bl_trans (bl_alloc (bl_drew (bl_refl w)) _) hb1⟩
end Go.Proofs.Ytjpmfiicbokdcaa
