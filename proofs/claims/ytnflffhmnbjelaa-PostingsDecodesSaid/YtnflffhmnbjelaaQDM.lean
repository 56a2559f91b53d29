/- The plain law of decoding inverted lists. -/
import Derived.Test.YtnflffhmnbjelaaQLbW
namespace Go.Proofs.Ytnflffhmnbjelaa
set_option linter.unusedVariables false
/-- What a Reader yields gap by gap: its position, the last position, the positions. -/
def gst (L : List Bool) : Nat → Option (Nat × Int × List Int)
  | 0 => some (0, -1, [])
  | k + 1 => match gst L k with
    | none => none
    | some s => if (deltaM L s.1).2.2 = 0 ∧ (deltaM L s.1).1 ≤ 2147483648 then some ((deltaM L s.1).2.1, s.2.1 + ((deltaM L s.1).1 : Nat), s.2.2 ++ [s.2.1 + ((deltaM L s.1).1 : Nat)]) else none
theorem gst_some {L : List Bool} {k at_ : Nat} {last : Int} {l : List Int} (h : gst L k = some (at_, last, l)) : gst L (k + 1) = if (deltaM L at_).2.2 = 0 ∧ (deltaM L at_).1 ≤ 2147483648 then some ((deltaM L at_).2.1, last + ((deltaM L at_).1 : Nat), l ++ [last + ((deltaM L at_).1 : Nat)]) else none := by
  rw [gst, h]
theorem gst_none {L : List Bool} {k n : Nat} (h : gst L k = none) (hkn : k ≤ n) : gst L n = none := by
  induction n with
  | zero => obtain rfl : k = 0 := by omega
            exact h
  | succ n ih =>
    by_cases hk : k = n + 1
    · rw [← hk]; exact h
    · rw [gst, ih (by omega)]
def dec3 (b : List UInt8) (n : Nat) (L : List Bool) : Option (List Int) := match gst L n with
  | none => none
  | some s => if chkL s.2.2 = 0 ∧ encQ (natsOf s.2.2) = b then some s.2.2 else none
def dec2 (b : List UInt8) (n : Nat) (p : List UInt8) : Option (List Int) := if (dec 0 0 p).2.2 ≠ 0 ∨ 8 * (p.length - (dec 0 0 p).2.1) < (dec 0 0 p).1 then none else dec3 b n (unpackL (p.drop (dec 0 0 p).2.1) (dec 0 0 p).1)
def dec1 (b p : List UInt8) : Option (List Int) := if (dec 0 0 p).2.2 ≠ 0 ∨ 4096 < (dec 0 0 p).1 then none else dec2 b (dec 0 0 p).1 (p.drop (dec 0 0 p).2.1)
/-- The positions with an encoding. -/
def decQ (b : List UInt8) : Option (List Int) := if b.length < 4 then none else if le32 (crc (b.take (b.length - 4))) = b.drop (b.length - 4) then dec1 b (b.take (b.length - 4)) else none
theorem dec_le : ∀ (l : List UInt8) (i v : Nat), (dec i v l).2.1 ≤ i + l.length ∧ (dec i v l).2.2 ≤ 10
  | [], i, v => by simp [dec]
  | c :: l, i, v => by
    unfold dec
    by_cases h1 : i = 9 ∧ 1 < c.toNat
    · rw [if_pos h1]; simp
    · rw [if_neg h1]
      by_cases h2 : c.toNat < 128
      · rw [if_pos h2]
        by_cases h3 : c.toNat = 0 ∧ 0 < i
        · rw [if_pos h3]; simp
        · rw [if_neg h3]; simp only [List.length_cons]; omega
      · rw [if_neg h2]
        have := dec_le l (i + 1) (v + c.toNat % 128 * 2 ^ (7 * i))
        simp only [List.length_cons]
        omega
theorem unpack_packR (U : List Bool) (r : List UInt8) : unpackL (packL U ++ r) U.length = U := by
  have h : unpackL (packL U ++ r) U.length = unpackL (packL U) U.length := by
    unfold unpackL
    apply List.map_congr_left
    intro i hi
    have hi := List.mem_range.1 hi
    unfold bitAt
    rw [show (packL U ++ r).getD (i / 8) 0 = (packL U).getD (i / 8) 0 by
      simp only [List.getD]
      rw [List.getElem?_append_left (by rw [packL_length]; unfold nby; omega)]]
  rw [h, unpack_pack]
theorem gst_up {z : List Int} (h : chkL z = 0) : ∀ k, k ≤ z.length → gst (upQ (natsOf z) (natsOf z).length) k = some (posQ (natsOf z) k, ((befQ (natsOf z) k : Nat) : Int) - 1, z.take k)
  | 0, _ => by simp [gst, posQ, upQ, befQ]
  | k + 1, hk => by
    have ih := gst_up h k (by omega)
    obtain ⟨x, hx⟩ : ∃ x, z[k]? = some x := ⟨_, List.getElem?_eq_getElem (by omega)⟩
    obtain ⟨y, rfl, hy⟩ := natsOf_at h hx
    have hok := okQ_of h
    obtain ⟨g1, g2, g3⟩ := gapQ_ok hok hy
    have hx31 : y < 2147483648 := hok.2 y (List.mem_of_getElem? hy)
    have hg : gapQ (natsOf z) k ≤ 2147483648 := by omega
    have hr := read_gap hok (k := k) (by rw [natsOf_length]; omega)
    rw [gst_some ih, hr]
    simp only []
    rw [if_pos ⟨trivial, hg⟩, befQ_succ hy]
    have e : ((befQ (natsOf z) k : Nat) : Int) - 1 + ((gapQ (natsOf z) k : Nat) : Int) = ((y : Nat) : Int) := by omega
    rw [e, List.take_add_one, hx]
    simp
theorem decQ_enc {z : List Int} (h : chkL z = 0) : decQ (encQ (natsOf z)) = some z := by
  have hok := okQ_of h
  have hlen : z.length ≤ 4096 := ((chkL_zero z).1 h).1
  have hp := posQ_le hok (natsOf z).length (Nat.le_refl _)
  rw [natsOf_length] at hp
  have hpos : posQ (natsOf z) (natsOf z).length ≤ 819200 := by rw [natsOf_length]; omega
  obtain ⟨l, hl⟩ : ∃ l, l = natsOf z := ⟨_, rfl⟩
  have hll : l.length = z.length := by rw [hl, natsOf_length]
  have h4 : (encQ l).length - 4 = (encP l).length := by simp [encQ, le32]
  have h5 : ¬ (encQ l).length < 4 := by simp [encQ, le32]
  rw [← hl] at hpos ⊢
  unfold decQ
  rw [if_neg h5, h4]
  have h6 : (encQ l).take (encP l).length = encP l := by unfold encQ; exact List.take_left
  have h7 : (encQ l).drop (encP l).length = le32 (crc (encP l)) := by unfold encQ; exact List.drop_left
  rw [h6, h7, if_pos rfl]
  have e1 : encP l = uv l.length ++ (uv (posQ l l.length) ++ (packL (upQ l l.length) ++ skBs l ((l.length + 15) / 16 - 1))) := by unfold encP heP; simp
  have d1 := dec_uv l.length (uv (posQ l l.length) ++ (packL (upQ l l.length) ++ skBs l ((l.length + 15) / 16 - 1))) (by omega)
  rw [← e1] at d1
  unfold dec1
  rw [d1]
  simp only []
  rw [if_neg (by omega), e1, List.drop_left]
  have d2 := dec_uv (posQ l l.length) (packL (upQ l l.length) ++ skBs l ((l.length + 15) / 16 - 1)) (by omega)
  unfold dec2
  rw [d2]
  simp only []
  rw [if_neg (by
    simp only [List.length_append, packL_length]
    show ¬ (0 ≠ 0 ∨ _)
    unfold nby posQ
    omega), List.drop_left]
  unfold dec3
  have hu : unpackL (packL (upQ l l.length) ++ skBs l ((l.length + 15) / 16 - 1)) (posQ l l.length) = upQ l l.length := unpack_packR _ _
  have hg := gst_up h z.length (Nat.le_refl _)
  rw [← hl] at hg
  rw [hu]
  conv => lhs; rw [show gst (upQ l l.length) l.length = gst (upQ l l.length) z.length by rw [hll], hg]
  simp only [List.take_length]
  rw [if_pos ⟨h, by rw [← hl]⟩]
theorem dec3_spec {b : List UInt8} {n : Nat} {L : List Bool} {z : List Int} (h : dec3 b n L = some z) : chkL z = 0 ∧ encQ (natsOf z) = b := by
  unfold dec3 at h
  split at h
  · cases h
  · split at h
    · injection h with h
      subst h
      assumption
    · cases h
theorem decQ_spec {b : List UInt8} {z : List Int} (h : decQ b = some z) : chkL z = 0 ∧ encQ (natsOf z) = b := by
  unfold decQ at h
  split at h
  · cases h
  · split at h
    · unfold dec1 at h
      split at h
      · cases h
      · unfold dec2 at h
        split at h
        · cases h
        · exact dec3_spec h
    · cases h
theorem encQ_pos (l : List Nat) : posQ l l.length ≤ 8 * (encQ l).length := by
  unfold encQ encP heP
  simp only [List.length_append, packL_length]
  unfold nby posQ
  omega
end Go.Proofs.Ytnflffhmnbjelaa
