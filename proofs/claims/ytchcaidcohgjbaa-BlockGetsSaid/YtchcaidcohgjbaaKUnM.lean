/- Plain facts of the decoding of blocks, in the words of the reader's method number. -/
import Derived.Test.YtchcaidcohgjbaaKLoW
namespace Go.Proofs.Ytchcaidcohgjbaa
open Go.RowKit
set_option linter.unusedVariables false
theorem numS_true (b : List UInt8) (lim : Nat) : numS true b lim = if (dec 0 0 b).2.2 ≠ 0 ∨ lim < (dec 0 0 b).1 then (0, false, b) else ((dec 0 0 b).1, true, b.drop (dec 0 0 b).2.1) := by
  unfold numS; simp
theorem numS_false (b : List UInt8) (lim : Nat) : numS false b lim = (0, false, b) := if_pos (.inl rfl)
theorem numS_le (ok : Bool) (b : List UInt8) (lim : Nat) : (numS ok b lim).1 ≤ lim := by
  unfold numS
  split
  · exact Nat.zero_le _
  · rename_i h
    rcases Nat.lt_or_ge lim (dec 0 0 b).1 with h2 | h2
    · exact absurd (.inr (.inr h2)) h
    · exact h2
theorem numS_len (ok : Bool) (b : List UInt8) (lim : Nat) : (numS ok b lim).2.2.length ≤ b.length := by
  unfold numS
  split
  · exact Nat.le_refl _
  · simp
theorem decK_head (hl : Nat → Nat) (b : List UInt8) (r1 r2 r3 : Nat × Bool × List UInt8) (h1 : r1 = numS true b 128) (h2 : r2 = numS r1.2.1 r1.2.2 31) (h3 : r3 = numS r2.2.1 r2.2.2 128) :
    decK hl b = if r3.2.1 = false then none else if r3.2.2.length < nby (r1.1 * r2.1) then none else excD (hl r2.1) r2.1 r3.1 0 (lowsD (r3.2.2.take (nby (r1.1 * r2.1))) r1.1 r2.1) (r3.2.2.drop (nby (r1.1 * r2.1))) := by
  unfold decK
  rw [numS_true] at h1
  by_cases c1 : (dec 0 0 b).2.2 ≠ 0 ∨ 128 < (dec 0 0 b).1
  · rw [if_pos c1] at h1
    subst h1
    rw [numS_false] at h2
    subst h2
    rw [numS_false] at h3
    subst h3
    simp only [if_pos c1, if_true]
  rw [if_neg c1] at h1
  subst h1
  rw [numS_true] at h2
  simp only [if_neg c1]
  by_cases c2 : (dec 0 0 (b.drop (dec 0 0 b).2.1)).2.2 ≠ 0 ∨ 31 < (dec 0 0 (b.drop (dec 0 0 b).2.1)).1
  · rw [if_pos c2] at h2
    subst h2
    rw [numS_false] at h3
    subst h3
    simp only [if_pos c2, if_true]
  rw [if_neg c2] at h2
  subst h2
  rw [numS_true] at h3
  simp only [if_neg c2] at h3 ⊢
  by_cases c3 : (dec 0 0 ((b.drop (dec 0 0 b).2.1).drop (dec 0 0 (b.drop (dec 0 0 b).2.1)).2.1)).2.2 ≠ 0 ∨ 128 < (dec 0 0 ((b.drop (dec 0 0 b).2.1).drop (dec 0 0 (b.drop (dec 0 0 b).2.1)).2.1)).1
  · rw [if_pos c3] at h3
    subst h3
    simp only [if_pos c3, if_true]
  · rw [if_neg c3] at h3
    subst h3
    simp only [if_neg c3]
    simp
theorem excD_step (hl w c at1 : Nat) (vs : List Nat) (b : List UInt8) (s1 s2 : Nat × Bool × List UInt8) (h1 : s1 = numS true b 128) (h2 : s2 = numS s1.2.1 s1.2.2 hl) :
    excD hl w (c + 1) at1 vs b = if s2.2.1 = false ∨ at1 + s1.1 < 1 ∨ vs.length < at1 + s1.1 then none else excD hl w c (at1 + s1.1) (vs.set (at1 + s1.1 - 1) (vs.getD (at1 + s1.1 - 1) 0 ||| s2.1 * 2 ^ w)) s2.2.2 := by
  conv => lhs; unfold excD
  rw [numS_true] at h1
  by_cases c1 : (dec 0 0 b).2.2 ≠ 0 ∨ 128 < (dec 0 0 b).1
  · rw [if_pos c1] at h1
    subst h1
    rw [numS_false] at h2
    subst h2
    simp only [if_pos c1, true_or, if_true]
  rw [if_neg c1] at h1
  subst h1
  rw [numS_true] at h2
  simp only [if_neg c1]
  by_cases c2 : (dec 0 0 (b.drop (dec 0 0 b).2.1)).2.2 ≠ 0 ∨ hl < (dec 0 0 (b.drop (dec 0 0 b).2.1)).1
  · rw [if_pos c2] at h2
    subst h2
    simp only [if_pos c2, true_or, if_true]
  · rw [if_neg c2] at h2
    subst h2
    simp only [if_neg c2]
    by_cases c3 : at1 + (dec 0 0 b).1 < 1 ∨ vs.length < at1 + (dec 0 0 b).1
    · simp only [if_pos c3]
      rw [if_pos (.inr c3)]
    · simp only [if_neg c3]
      rw [if_neg (by simp; omega)]
theorem excD_length (hl w : Nat) : ∀ (c at1 : Nat) (vs : List Nat) (b : List UInt8) (l : List Nat), excD hl w c at1 vs b = some l → l.length = vs.length
  | 0, at1, vs, b, l, h => by simp [excD] at h; rw [h]
  | c + 1, at1, vs, b, l, h => by
    rw [excD_step hl w c at1 vs b _ _ rfl rfl] at h
    split at h
    · cases h
    · have := excD_length hl w c _ _ _ l h
      rw [this, List.length_set]
theorem lowsD_length (p : List UInt8) (n w : Nat) : (lowsD p n w).length = n := by simp [lowsD]
theorem lowsD_lt (p : List UInt8) (n w : Nat) : ∀ v ∈ lowsD p n w, v < 2 ^ w := by
  intro v hv
  obtain ⟨i, _, rfl⟩ := List.mem_map.1 hv
  exact Nat.lt_of_lt_of_le (numB_lt _) (Nat.pow_le_pow_right (by decide) (by simp; omega))
theorem i64_bor (a b : Nat) (ha : a < 9223372036854775808) (hb : b < 9223372036854775808) : bits .or .i64 (a : Int) (b : Int) = ((a ||| b : Nat) : Int) := by
  have hx : a ||| b < 2 ^ 63 := Nat.or_lt_two_pow (by omega) (by omega)
  have h : ∀ c : Nat, c < 9223372036854775808 → (BitVec.ofInt 64 (c : Int)).toNat = c := fun c hc => by
    rw [BitVec.ofInt_natCast, BitVec.toNat_ofNat]; exact Nat.mod_eq_of_lt (by omega)
  show IntKind.i64.wrap ((BitVec.ofInt 64 (a : Int) ||| BitVec.ofInt 64 (b : Int)).toNat : Int) = _
  rw [BitVec.toNat_or, h a ha, h b hb, IntKind.wrap_i64]
  omega
/-- What Unpack answers. -/
def URes (base : Nat) (o : Option (List Nat)) (e : Ending) (w : World) : Prop :=
  match o with
  | none => e = .returned (.tuple #[.slice none 0 0, .int .i64 9])
  | some vs => ∃ v, e = .returned (.tuple #[v, .int .i64 0]) ∧ w.ownsRow base 3 1 v vs.length (vs.map nv)
theorem blkOf_none {hl : Nat → Nat} {b : List UInt8} (h : decK hl b = none) : blkOf hl b = none := by unfold blkOf; rw [h]
theorem blkOf_some {hl : Nat → Nat} {b : List UInt8} {l : List Nat} (h : decK hl b = some l) : blkOf hl b = if chkV (l.map Int.ofNat) = 0 ∧ packM l = b then some l else none := by unfold blkOf; rw [h]
end Go.Proofs.Ytchcaidcohgjbaa
