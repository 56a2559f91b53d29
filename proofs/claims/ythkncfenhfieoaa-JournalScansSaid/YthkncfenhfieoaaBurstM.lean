/- The plain law of bursts: some of 32 consecutive bits turned do not pass the check. Bit vectors and lists of bytes alone. -/
import Derived.Test.YthkncfenhfieoaaCombM
namespace Go.Proofs.Ythkncfenhfieoaa
set_option linter.unusedVariables false

def bt (b : Bool) : BitVec 32 := if b then 1#32 else 0#32
/-- The register, fed bit by bit. -/
def reg (f : Nat → Bool) (v : BitVec 32) : Nat → BitVec 32
  | 0 => v
  | k + 1 => stp (reg f v k ^^^ bt (f k))
theorem reg_add (f : Nat → Bool) (v : BitVec 32) (a : Nat) : ∀ b, reg f v (a + b) = reg (fun i => f (a + i)) (reg f v a) b
  | 0 => rfl
  | b + 1 => by show stp (reg f v (a + b) ^^^ _) = _; rw [reg_add f v a b]; rfl
theorem reg_congr {f g : Nat → Bool} (v : BitVec 32) : ∀ k, (∀ i, i < k → f i = g i) → reg f v k = reg g v k
  | 0, _ => rfl
  | k + 1, h => by simp only [reg]; rw [reg_congr v k (fun i hi => h i (by omega)), h k (by omega)]
theorem stpN_shr (v : BitVec 32) : ∀ n, (∀ i, i < n → v.getLsbD i = false) → stpN n v = v >>> n
  | 0, _ => by simp [stpN]
  | n + 1, h => by
    show stp (stpN n v) = _
    rw [stpN_shr v n (fun i hi => h i (by omega)), stp_even _ (by rw [BitVec.getLsbD_ushiftRight]; exact h n (by omega))]
    rw [BitVec.shiftRight_add]
theorem stpN_two (k : Nat) (h : k < 32) : stpN k (BitVec.twoPow 32 k) = 1#32 := by
  rw [stpN_shr _ k (fun i hi => by rw [BitVec.getLsbD_twoPow]; simp; omega)]
  apply BitVec.eq_of_getLsbD_eq
  intro i hi
  rw [BitVec.getLsbD_ushiftRight, BitVec.getLsbD_twoPow]
  have : (1#32).getLsbD i = decide (i = 0) := by
    have : ∀ i, i < 32 → (1#32).getLsbD i = decide (i = 0) := by decide
    exact this i hi
  rw [this]
  simp [h]
theorem reg_low (f : Nat → Bool) (v u : BitVec 32) : ∀ k, k ≤ 32 → (∀ i, i < k → f i = u.getLsbD i) → reg f v k = stpN k (v ^^^ low k u)
  | 0, _, _ => by simp [reg, stpN, low]
  | k + 1, hk, h => by
    have ih := reg_low f v u k (by omega) (fun i hi => h i (by omega))
    have e : bt (f k) = stpN k (if u.getLsbD k then BitVec.twoPow 32 k else 0#32) := by
      rw [h k (by omega)]
      cases u.getLsbD k
      · simp [bt, stpN_zero]
      · simp [bt, stpN_two k (by omega)]
    show stp (reg f v k ^^^ bt (f k)) = stp (stpN k (v ^^^ low (k + 1) u))
    rw [ih, e, ← stpN_xor]
    congr 2
    show v ^^^ low k u ^^^ _ = v ^^^ (low k u ^^^ _)
    rw [BitVec.xor_assoc]
theorem reg_zero (f : Nat → Bool) (v : BitVec 32) : ∀ k, (∀ i, i < k → f i = false) → reg f v k = stpN k v
  | 0, _ => rfl
  | k + 1, h => by
    show stp (reg f v k ^^^ bt (f k)) = stp (stpN k v)
    rw [reg_zero f v k (fun i hi => h i (by omega)), h k (by omega)]
    simp [bt]
theorem stp_ne (v : BitVec 32) (h : stp v = 0#32) : v = 0#32 := by
  unfold stp at h
  cases hb : v.getLsbD 0
  · rw [hb] at h
    simp at h
    apply BitVec.eq_of_getLsbD_eq
    intro i hi
    rcases i with _ | i
    · simpa using hb
    · have : (v >>> 1).getLsbD i = false := by rw [h]; simp
      rw [BitVec.getLsbD_ushiftRight, Nat.add_comm] at this
      simpa using this
  · rw [hb, if_pos rfl] at h
    have : (v >>> 1 ^^^ 0x82F63B78#32).getLsbD 31 = false := by rw [h]; simp
    rw [BitVec.getLsbD_xor, BitVec.getLsbD_ushiftRight, BitVec.getLsbD_of_ge v (1 + 31) (by omega)] at this
    exact absurd this (by decide)
theorem stpN_ne (v : BitVec 32) : ∀ n, stpN n v = 0#32 → v = 0#32
  | 0, h => h
  | n + 1, h => stpN_ne v n (stp_ne _ h)

/-- The j-th bit of some bytes. -/
def bitAt (l : List UInt8) (j : Nat) : Bool := (l.getD (j / 8) 0).toNat.testBit (j % 8)
theorem c32_bit (c : UInt8) (i : Nat) (h : i < 8) : (c32 c).getLsbD i = c.toNat.testBit i := by
  unfold c32
  rw [BitVec.getLsbD_setWidth]
  simp [BitVec.getLsbD, show i < 32 by omega]
theorem c32_low (c : UInt8) : low 8 (c32 c) = c32 c := by
  apply low_all
  apply BitVec.eq_of_getLsbD_eq
  intro i hi
  rw [BitVec.getLsbD_ushiftRight]
  unfold c32
  rw [BitVec.getLsbD_setWidth, BitVec.getLsbD_of_ge _ _ (by omega)]
  simp
theorem crcB_reg (v : BitVec 32) (c : UInt8) (f : Nat → Bool) (h : ∀ i, i < 8 → f i = c.toNat.testBit i) : crcB v c = reg f v 8 := by
  rw [reg_low f v (c32 c) 8 (by omega) (fun i hi => by rw [c32_bit c i hi]; exact h i hi), c32_low]
  rfl
theorem crcF_reg : ∀ (l : List UInt8) (v : BitVec 32), crcF v l = reg (bitAt l) v (8 * l.length)
  | [], v => rfl
  | c :: l, v => by
    show crcF (crcB v c) l = _
    rw [crcF_reg l (crcB v c), crcB_reg v c (bitAt (c :: l)) (fun i hi => by simp [bitAt, Nat.div_eq_of_lt hi, Nat.mod_eq_of_lt hi])]
    rw [List.length_cons, show 8 * (l.length + 1) = 8 + 8 * l.length by omega, reg_add]
    apply reg_congr
    intro i _
    show bitAt l i = bitAt (c :: l) (8 + i)
    unfold bitAt
    rw [show (8 + i) / 8 = i / 8 + 1 by omega, show (8 + i) % 8 = i % 8 by omega]
    rfl

/-- A burst: bits of 'pat' from 'at_' on, and none besides. -/
theorem burst_ne (D : List UInt8) (at_ m : Nat) (pat : BitVec 32) (hm : m ≤ 32) (hT : at_ + m ≤ 8 * D.length)
    (hb : ∀ j, j < 8 * D.length → bitAt D j = (decide (at_ ≤ j ∧ j < at_ + m) && pat.getLsbD (j - at_))) (hne : low m pat ≠ 0#32) : crcF 0#32 D ≠ 0#32 := by
  intro h
  rw [crcF_reg, show 8 * D.length = at_ + (m + (8 * D.length - at_ - m)) by omega, reg_add, reg_add] at h
  rw [reg_zero (bitAt D) 0#32 at_ (fun i hi => by rw [hb i (by omega)]; simp; omega), stpN_zero] at h
  rw [reg_zero _ _ (8 * D.length - at_ - m) (fun i hi => by rw [hb _ (by omega)]; simp; omega)] at h
  have h1 := stpN_ne _ _ h
  rw [reg_low _ _ pat m hm (fun i hi => by rw [hb _ (by omega)]; simp [hi])] at h1
  have h2 := stpN_ne _ _ h1
  rw [BitVec.zero_xor] at h2
  exact hne h2

theorem xorL_app (a b c d : List UInt8) (h : a.length = c.length) : xorL (a ++ b) (c ++ d) = xorL a c ++ xorL b d := by
  unfold xorL
  rw [List.zipWith_append h]
theorem byt_xor (a b : BitVec 32) (i : Nat) : byt a i ^^^ byt b i = byt (a ^^^ b) i := by
  apply UInt8.toNat_inj.1
  unfold byt
  rw [UInt8.toNat_xor, UInt8.toNat_ofNat', UInt8.toNat_ofNat', UInt8.toNat_ofNat', BitVec.toNat_xor]
  rw [show (256 : Nat) ^ i = 2 ^ (8 * i) by rw [show (256 : Nat) = 2 ^ 8 by decide, ← Nat.pow_mul]]
  apply Nat.eq_of_testBit_eq
  intro j
  simp only [Nat.testBit_xor, Nat.testBit_mod_two_pow, Nat.testBit_div_two_pow]
  by_cases hj : j < 8 <;> simp [hj]
theorem byt_shift (z : BitVec 32) (i : Nat) : byt (z >>> 8) i = byt z (i + 1) := by
  unfold byt
  rw [BitVec.toNat_ushiftRight, Nat.shiftRight_eq_div_pow, Nat.div_div_eq_div_mul, Nat.pow_succ 256 i, Nat.mul_comm (256 ^ i) 256]
theorem crcB_own (z : BitVec 32) : crcB z (byt z 0) = z >>> 8 := by
  have hlow : ∀ i, i < 8 → (z ^^^ c32 (byt z 0)).getLsbD i = false := by
    intro i hi
    rw [BitVec.getLsbD_xor, c32_bit _ i hi]
    unfold byt
    rw [UInt8.toNat_ofNat', Nat.testBit_mod_two_pow]
    simp [hi, BitVec.getLsbD]
  unfold crcB
  rw [stpN_shr _ 8 hlow]
  apply BitVec.eq_of_getLsbD_eq
  intro i hi
  rw [BitVec.getLsbD_ushiftRight, BitVec.getLsbD_ushiftRight, BitVec.getLsbD_xor]
  have : (c32 (byt z 0)).getLsbD (8 + i) = false := by
    unfold c32
    rw [BitVec.getLsbD_setWidth, BitVec.getLsbD_of_ge _ _ (by omega)]
    simp
  rw [this]; simp
theorem crcF_own (z : BitVec 32) : crcF z (le32 z) = 0#32 := by
  show crcB (crcB (crcB (crcB z (byt z 0)) (byt z 1)) (byt z 2)) (byt z 3) = _
  rw [crcB_own, ← byt_shift z 0, crcB_own, ← byt_shift z 1, ← byt_shift (z >>> 8) 0, crcB_own, ← byt_shift z 2, ← byt_shift (z >>> 8) 1, ← byt_shift (z >>> 8 >>> 8) 0, crcB_own]
  rw [← BitVec.shiftRight_add, ← BitVec.shiftRight_add, ← BitVec.shiftRight_add]
  exact shr_32 z
/-- If both strings bear their sums, the sum of the difference is 0. -/
theorem sealed_diff (p p' : List UInt8) (h : p.length = p'.length) : crcF 0#32 (xorL (p ++ le32 (crc p)) (p' ++ le32 (crc p'))) = 0#32 := by
  rw [xorL_app _ _ _ _ h]
  have e : xorL (le32 (crc p)) (le32 (crc p')) = le32 (crc p ^^^ crc p') := by
    show [byt (crc p) 0 ^^^ byt (crc p') 0, byt (crc p) 1 ^^^ byt (crc p') 1, byt (crc p) 2 ^^^ byt (crc p') 2, byt (crc p) 3 ^^^ byt (crc p') 3] = _
    rw [byt_xor, byt_xor, byt_xor, byt_xor]
    rfl
  rw [e]
  unfold crcF
  rw [List.foldl_append]
  have e2 : (xorL p p').foldl crcB 0#32 = crc p ^^^ crc p' := by
    have := crcF_xor p p' 0xFFFFFFFF#32 0xFFFFFFFF#32 h
    rw [BitVec.xor_self] at this
    unfold crcF at this
    rw [this]
    unfold crc crcF
    apply BitVec.eq_of_getLsbD_eq
    intro i hi
    simp [hi]
  rw [e2]
  exact crcF_own _
theorem u8_testBit_xor (x y : UInt8) (t : Nat) : (x ^^^ y).toNat.testBit t = (x.toNat.testBit t ^^ y.toNat.testBit t) := by
  rw [UInt8.toNat_xor, Nat.testBit_xor]
theorem bitAt_xor (a b : List UInt8) (h : a.length = b.length) (j : Nat) : bitAt (xorL a b) j = (bitAt a j ^^ bitAt b j) := by
  unfold bitAt
  rw [← u8_testBit_xor]
  congr 2
  unfold xorL
  by_cases hj : j / 8 < a.length
  · simp [List.getD, List.getElem?_zipWith, hj, show j / 8 < b.length by omega]
  · simp [List.getD, List.getElem?_zipWith, hj, show ¬ j / 8 < b.length by omega]
/-- One bit turned. -/
def one8 (a : Nat) : UInt8 := UInt8.ofNat (2 ^ a)
theorem one8_bit (a t : Nat) (h : a < 8) : (one8 a).toNat.testBit t = decide (a = t) := by
  unfold one8
  rw [UInt8.toNat_ofNat', Nat.mod_eq_of_lt (Nat.pow_lt_pow_right (by omega) h), Nat.testBit_two_pow]
theorem bitAt_set (l : List UInt8) (j i : Nat) (x : UInt8) (hx : l[j / 8]? = some x) : bitAt (l.set (j / 8) (x ^^^ one8 (j % 8))) i = (bitAt l i ^^ decide (i = j)) := by
  have hj : j / 8 < l.length := (List.getElem?_eq_some_iff.1 hx).1
  unfold bitAt
  by_cases h : i / 8 = j / 8
  · rw [h]
    simp only [List.getD, hx, List.getElem?_set_self hj, Option.getD_some]
    rw [u8_testBit_xor, one8_bit _ _ (by omega)]
    congr 1
    rw [decide_eq_decide]
    omega
  · simp only [List.getD]
    rw [List.getElem?_set_ne (fun e => h e.symm)]
    have : decide (i = j) = false := by simp; intro e; subst e; exact h rfl
    rw [this]; simp
/-- What the loop holds: the bits from 'at_' on, as many as i, are turned as the pattern says. -/
def Turned (l0 l : List UInt8) (at_ i : Nat) (pat : BitVec 32) : Prop :=
  l.length = l0.length ∧ ∀ j, bitAt l j = (bitAt l0 j ^^ (decide (at_ ≤ j ∧ j < at_ + i) && pat.getLsbD (j - at_)))
theorem Turned.zero (l : List UInt8) (at_ : Nat) (pat : BitVec 32) : Turned l l at_ 0 pat := ⟨rfl, fun j => by
  have : decide (at_ ≤ j ∧ j < at_ + 0) = false := by simp
  rw [this]; simp⟩
theorem Turned.no {l0 l : List UInt8} {at_ i : Nat} {pat : BitVec 32} (h : Turned l0 l at_ i pat) (hb : pat.getLsbD i = false) : Turned l0 l at_ (i + 1) pat := by
  refine ⟨h.1, fun j => ?_⟩
  rw [h.2 j]
  congr 1
  by_cases e : j = at_ + i
  · subst e; simp [hb]
  · congr 1; rw [decide_eq_decide]; omega
theorem Turned.yes {l0 l : List UInt8} {at_ i : Nat} {pat : BitVec 32} (h : Turned l0 l at_ i pat) (hb : pat.getLsbD i = true) {x : UInt8} (hx : l[(at_ + i) / 8]? = some x) :
    Turned l0 (l.set ((at_ + i) / 8) (x ^^^ one8 ((at_ + i) % 8))) at_ (i + 1) pat := by
  refine ⟨by simpa using h.1, fun j => ?_⟩
  rw [bitAt_set l _ j x hx, h.2 j]
  by_cases e : j = at_ + i
  · subst e; simp [hb]
  · have h1 : decide (at_ ≤ j ∧ j < at_ + (i + 1)) = decide (at_ ≤ j ∧ j < at_ + i) := by rw [decide_eq_decide]; omega
    rw [h1]; simp [e]
theorem low_no {i : Nat} {pat : BitVec 32} (hb : pat.getLsbD i = false) : low (i + 1) pat = low i pat := by
  show low i pat ^^^ _ = _
  rw [hb]; simp
theorem low_yes {i : Nat} {pat : BitVec 32} (hi : i < 32) (hb : pat.getLsbD i = true) : low (i + 1) pat ≠ 0#32 := by
  intro h
  have h1 := low_get pat (i + 1) i hi
  rw [h, hb] at h1
  simp at h1
/-- What the law says. -/
theorem burst_law (p p' q' : List UInt8) (at_ m : Nat) (pat : BitVec 32) (hm : m ≤ 32) (hT : at_ + m ≤ 8 * (p.length + 4)) (hp : p'.length = p.length) (hq : q'.length = 4)
    (ht : Turned (p ++ le32 (crc p)) (p' ++ q') at_ m pat) (hne : low m pat ≠ 0#32) : le32 (crc p') ≠ q' := by
  intro h
  subst h
  have hl : (p ++ le32 (crc p)).length = (p' ++ le32 (crc p')).length := ht.1.symm
  have hlen : (xorL (p ++ le32 (crc p)) (p' ++ le32 (crc p'))).length = p.length + 4 := by rw [xorL_length _ _ hl]; simp [le32]
  refine burst_ne (xorL (p ++ le32 (crc p)) (p' ++ le32 (crc p'))) at_ m pat hm (by rw [hlen]; omega) (fun j hj => ?_) hne (sealed_diff p p' hp.symm)
  rw [bitAt_xor _ _ hl, ht.2 j]
  generalize bitAt (p ++ le32 (crc p)) j = x
  generalize (decide (at_ ≤ j ∧ j < at_ + m) && pat.getLsbD (j - at_)) = y
  cases x <;> cases y <;> rfl
end Go.Proofs.Ythkncfenhfieoaa
