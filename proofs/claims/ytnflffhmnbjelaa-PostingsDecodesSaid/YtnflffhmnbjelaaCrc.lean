/- The plain law of the cyclic redundancy check: bit vectors and lists of bytes alone, nothing of the program. -/
import Derived.Test.YtnflffhmnbjelaaBase
namespace Go.Proofs.Ytnflffhmnbjelaa

def c32 (c : UInt8) : BitVec 32 := c.toBitVec.setWidth 32
def stp (v : BitVec 32) : BitVec 32 := (v >>> 1) ^^^ (if v.getLsbD 0 then 0x82F63B78#32 else 0#32)
def stpN : Nat → BitVec 32 → BitVec 32
  | 0, v => v
  | n + 1, v => stp (stpN n v)
theorem stp_xor (a b : BitVec 32) : stp (a ^^^ b) = stp a ^^^ stp b := by
  unfold stp
  rw [BitVec.getLsbD_xor, BitVec.ushiftRight_xor_distrib]
  have e : ∀ p : BitVec 32, (a >>> 1 ^^^ p) ^^^ (b >>> 1 ^^^ p) = a >>> 1 ^^^ b >>> 1 := fun p => by
    rw [BitVec.xor_comm (b >>> 1) p, BitVec.xor_assoc, ← BitVec.xor_assoc p p, BitVec.xor_self, BitVec.zero_xor]
  cases a.getLsbD 0 <;> cases b.getLsbD 0 <;> simp [e] <;> ac_rfl
theorem stpN_xor (n : Nat) (a b : BitVec 32) : stpN n (a ^^^ b) = stpN n a ^^^ stpN n b := by
  induction n with
  | zero => rfl
  | succ n ih => simp only [stpN, ih, stp_xor]
theorem stpN_add (m n : Nat) (v : BitVec 32) : stpN (m + n) v = stpN m (stpN n v) := by
  induction m with
  | zero => simp [stpN]
  | succ m ih => rw [Nat.succ_add]; simp only [stpN, ih]
theorem stp_even (v : BitVec 32) (h : v.getLsbD 0 = false) : stp v = v >>> 1 := by unfold stp; rw [h]; simp
theorem stp_zero : stp 0#32 = 0#32 := by decide
theorem stpN_zero (n : Nat) : stpN n 0#32 = 0#32 := by
  induction n with
  | zero => rfl
  | succ n ih => simp only [stpN, ih, stp_zero]
def nib (v : BitVec 32) : BitVec 32 := (v >>> 4) ^^^ stpN 4 (v &&& 15#32)
theorem stpN4_hi (v : BitVec 32) : stpN 4 ((v >>> 4) <<< 4) = v >>> 4 := by
  simp only [stpN]
  rw [stp_even ((v >>> 4) <<< 4) (by simp), stp_even (((v >>> 4) <<< 4) >>> 1) (by simp), stp_even ((((v >>> 4) <<< 4) >>> 1) >>> 1) (by simp), stp_even (((((v >>> 4) <<< 4) >>> 1) >>> 1) >>> 1) (by simp)]
  apply BitVec.eq_of_getLsbD_eq
  intro i hi
  simp only [BitVec.getLsbD_ushiftRight, BitVec.getLsbD_shiftLeft]
  by_cases h : 1 + (1 + (1 + (1 + i))) < 32
  · have : ¬ 1 + (1 + (1 + (1 + i))) < 4 := by omega
    simp [h, this]; congr 1; omega
  · simp [h]
    rw [BitVec.getLsbD_of_ge]; omega
theorem split4 (v : BitVec 32) : ((v >>> 4) <<< 4) ^^^ (v &&& 15#32) = v := by
  apply BitVec.eq_of_getLsbD_eq
  intro i hi
  simp only [BitVec.getLsbD_xor, BitVec.getLsbD_and, BitVec.getLsbD_shiftLeft, BitVec.getLsbD_ushiftRight]
  have h15 : (15#32).getLsbD i = decide (i < 4) := by
    have : ∀ i, i < 32 → (15#32).getLsbD i = decide (i < 4) := by decide
    exact this i hi
  rw [h15]
  by_cases h : i < 4
  · simp [h]
  · simp [h, hi, show 4 + (i - 4) = i by omega]
theorem nib_eq (v : BitVec 32) : nib v = stpN 4 v := by
  rw [nib, ← stpN4_hi, ← stpN_xor, split4]
theorem nib2 (v : BitVec 32) : nib (nib v) = stpN 8 v := by rw [nib_eq, nib_eq, ← stpN_add]

/-- One byte; all bytes. -/
def crcB (v : BitVec 32) (c : UInt8) : BitVec 32 := stpN 8 (v ^^^ c32 c)
def crcF (v : BitVec 32) (l : List UInt8) : BitVec 32 := l.foldl crcB v
def crc (l : List UInt8) : BitVec 32 := ~~~ (crcF 0xFFFFFFFF#32 l)
theorem crcF_snoc (v : BitVec 32) (l : List UInt8) (c : UInt8) : crcF v (l ++ [c]) = crcB (crcF v l) c := by simp [crcF]
theorem take_snocC {α : Type} (l : List α) (k : Nat) (c : α) (h : l[k]? = some c) : l.take (k + 1) = l.take k ++ [c] := by
  rw [List.take_add_one, h]; rfl

/-! The walk's own spellings of the bits. -/
theorem bv_xor (x y : BitVec 32) : bits .xor .u32 (x.toNat : Int) (y.toNat : Int) = ((x ^^^ y).toNat : Int) := by
  have hx := x.isLt
  have hy := y.isLt
  rw [u32_xor _ _ (by omega) (by omega) (by omega) (by omega)]; simp
theorem bv_and (x y : BitVec 32) : bits .and .u32 (x.toNat : Int) (y.toNat : Int) = ((x &&& y).toNat : Int) := by
  have hx := x.isLt
  have hy := y.isLt
  rw [u32_and _ _ (by omega) (by omega) (by omega) (by omega)]; simp
theorem bv_and1 (x : BitVec 32) : bits .and .u32 (x.toNat : Int) 1 = ((x &&& 1#32).toNat : Int) := bv_and x 1#32
theorem bv_and15 (x : BitVec 32) : bits .and .u32 (x.toNat : Int) 15 = ((x &&& 15#32).toNat : Int) := bv_and x 15#32
theorem bv_shr (x : BitVec 32) (n : Nat) : ((x.toNat : Int) / 2 ^ n) = ((x >>> n).toNat : Int) := by
  rw [BitVec.toNat_ushiftRight, Nat.shiftRight_eq_div_pow]; simp
theorem bv_not (x : BitVec 32) : bits .xor .u32 4294967295 (x.toNat : Int) = ((~~~x).toNat : Int) := by
  have h := bv_xor (BitVec.allOnes 32) x
  rw [BitVec.allOnes_xor] at h
  exact h
/-- One nibble as the walk spells it: the index, the number in the table, the result. -/
theorem nib_walk (y : BitVec 32) : ∃ (i : Nat) (t z : BitVec 32), i < 16 ∧ bits .and .u32 (y.toNat : Int) 15 = (i : Int) ∧ t = stpN 4 (BitVec.ofNat 32 i) ∧
    bits .xor .u32 ((y.toNat : Int) / 16) (t.toNat : Int) = (z.toNat : Int) ∧ z = nib y := by
  refine ⟨(y &&& 15#32).toNat, _, nib y, ?_, bv_and15 y, rfl, ?_, rfl⟩
  · rw [BitVec.toNat_and]; exact Nat.lt_of_le_of_lt Nat.and_le_right (by decide)
  · have e := bv_shr y 4
    rw [show (2 : Int) ^ 4 = 16 by decide] at e
    rw [e, bv_xor, nib]
    congr 3
    simp
theorem bv_c32 (c : UInt8) : ((c.toNat : Int) % 4294967296) = ((c32 c).toNat : Int) := by
  have := c.toNat_lt
  simp [c32]
  omega
theorem stp_if (v : BitVec 32) : stp v = if v &&& 1#32 = 1#32 then (v >>> 1) ^^^ 0x82F63B78#32 else v >>> 1 := by
  have e : v &&& 1#32 = 1#32 ↔ v.getLsbD 0 = true := by
    rw [← BitVec.toNat_inj, BitVec.toNat_and]
    simp [BitVec.getLsbD, Nat.testBit_zero]
  unfold stp
  by_cases c : v &&& 1#32 = 1#32
  · rw [if_pos c, if_pos (e.1 c)]
  · rw [if_neg c, if_neg (fun h => c (e.2 h))]; simp
theorem stp_walk (v : BitVec 32) : ((stp v).toNat : Int) = if (bits .and .u32 (v.toNat : Int) 1 == 1) = true then bits .xor .u32 ((v.toNat : Int) / 2) 2197175160 else (v.toNat : Int) / 2 := by
  rw [bv_and1, stp_if]
  have e2 : ((↑(v &&& 1#32).toNat : Int) == 1) = true ↔ v &&& 1#32 = 1#32 := by
    rw [beq_iff_eq, ← BitVec.toNat_inj]; simp; omega
  have e3 := bv_shr v 1
  rw [Int.pow_one] at e3
  by_cases c : v &&& 1#32 = 1#32
  · rw [if_pos (e2.2 c), if_pos c, e3]
    exact (bv_xor (v >>> 1) 0x82F63B78#32).symm
  · rw [if_neg (fun h => c (e2.1 h)), if_neg c, e3]

/-! Linear. -/
theorem c32_xor (a b : UInt8) : c32 (a ^^^ b) = c32 a ^^^ c32 b := by simp [c32, UInt8.toBitVec_xor, BitVec.setWidth_xor]
theorem crcB_xor (u v : BitVec 32) (a b : UInt8) : crcB (u ^^^ v) (a ^^^ b) = crcB u a ^^^ crcB v b := by
  unfold crcB
  rw [← stpN_xor, c32_xor]
  congr 1
  ac_rfl
/-- Strings of equal length, byte by byte. -/
def xorL (a b : List UInt8) : List UInt8 := List.zipWith (· ^^^ ·) a b
theorem crcF_xor : ∀ (a b : List UInt8) (u v : BitVec 32), a.length = b.length → crcF (u ^^^ v) (xorL a b) = crcF u a ^^^ crcF v b
  | [], [], _, _, _ => rfl
  | a :: la, b :: lb, u, v, h => by
    simp only [xorL, List.zipWith_cons_cons, crcF, List.foldl_cons]
    rw [crcB_xor]
    exact crcF_xor la lb _ _ (by simpa using h)
theorem xorL_length (a b : List UInt8) (h : a.length = b.length) : (xorL a b).length = a.length := by simp [xorL, h]
theorem xorL_get {a b : List UInt8} {k : Nat} {x y : UInt8} (h1 : a[k]? = some x) (h2 : b[k]? = some y) : (xorL a b)[k]? = some (x ^^^ y) := by
  simp [xorL, List.getElem?_zipWith, h1, h2]
theorem crc_linear (a b c : List UInt8) (h1 : a.length = b.length) (h2 : b.length = c.length) : crc (xorL (xorL a b) c) = crc a ^^^ crc b ^^^ crc c := by
  unfold crc
  have e : (0xFFFFFFFF#32) = (0xFFFFFFFF#32 ^^^ 0xFFFFFFFF#32) ^^^ 0xFFFFFFFF#32 := by decide
  have h3 := crcF_xor (xorL a b) c (0xFFFFFFFF#32 ^^^ 0xFFFFFFFF#32) 0xFFFFFFFF#32 (by rw [xorL_length a b h1]; omega)
  have h4 := crcF_xor a b 0xFFFFFFFF#32 0xFFFFFFFF#32 h1
  rw [← e] at h3
  rw [h3, h4]
  generalize crcF 0xFFFFFFFF#32 a = x
  generalize crcF 0xFFFFFFFF#32 b = y
  generalize crcF 0xFFFFFFFF#32 c = z
  have n : ∀ x : BitVec 32, ~~~x = BitVec.allOnes 32 ^^^ x := fun x => BitVec.allOnes_xor.symm
  have hh : ∀ o : BitVec 32, o ^^^ (x ^^^ y ^^^ z) = (o ^^^ x) ^^^ (o ^^^ y) ^^^ (o ^^^ z) := fun o => by
    have : (o ^^^ x) ^^^ (o ^^^ y) ^^^ (o ^^^ z) = (o ^^^ o) ^^^ (o ^^^ (x ^^^ y ^^^ z)) := by ac_rfl
    rw [this, BitVec.xor_self, BitVec.zero_xor]
  rw [n, n x, n y, n z]
  exact hh _

/-- The i-th byte of a sum, the least significant first. -/
def byt (v : BitVec 32) (i : Nat) : UInt8 := UInt8.ofNat (v.toNat / 256 ^ i)
def le32 (v : BitVec 32) : List UInt8 := [byt v 0, byt v 1, byt v 2, byt v 3]
theorem byt0 (v : BitVec 32) : (v.toNat : Int) % 256 = ((byt v 0).toNat : Int) := by simp [byt, UInt8.toNat_ofNat']
theorem byt1 (v : BitVec 32) : (v.toNat : Int) / 256 % 256 = ((byt v 1).toNat : Int) := by simp [byt, UInt8.toNat_ofNat']
theorem byt2 (v : BitVec 32) : (v.toNat : Int) / 65536 % 256 = ((byt v 2).toNat : Int) := by simp [byt, UInt8.toNat_ofNat']
theorem byt3 (v : BitVec 32) : (v.toNat : Int) / 16777216 = ((byt v 3).toNat : Int) := by
  have := v.isLt
  simp [byt, UInt8.toNat_ofNat']
  omega
end Go.Proofs.Ytnflffhmnbjelaa
