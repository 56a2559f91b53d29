/- The plain law of blocks, decoding: what is encoded is decoded again. -/
import Derived.Test.YtchcaidcohgjbaaKM
import Derived.Test.YtchcaidcohgjbaaRdM
namespace Go.Proofs.Ytchcaidcohgjbaa
set_option linter.unusedVariables false
/-- The exceptions, read: at1 is the position of the last one, plus one. -/
def excD (hl w : Nat) : Nat → Nat → List Nat → List UInt8 → Option (List Nat)
  | 0, _, vs, _ => some vs
  | c + 1, at1, vs, b =>
    let g := dec 0 0 b
    if g.2.2 ≠ 0 ∨ 128 < g.1 then none else
    let b1 := b.drop g.2.1
    let h := dec 0 0 b1
    if h.2.2 ≠ 0 ∨ hl < h.1 then none else
    if at1 + g.1 < 1 ∨ vs.length < at1 + g.1 then none else
    excD hl w c (at1 + g.1) (vs.set (at1 + g.1 - 1) (vs.getD (at1 + g.1 - 1) 0 ||| h.1 * 2 ^ w)) (b1.drop h.2.1)
/-- The lowest bits of n numbers of a width. -/
def lowsD (b : List UInt8) (n w : Nat) : List Nat := (List.range n).map fun i => takeM (unpackL b (n * w)) (i * w) w
/-- An encoding, read; hl says how great the high part of an exception may be, for each width. -/
def decK (hl : Nat → Nat) (b : List UInt8) : Option (List Nat) :=
  let n := dec 0 0 b
  if n.2.2 ≠ 0 ∨ 128 < n.1 then none else
  let b1 := b.drop n.2.1
  let w := dec 0 0 b1
  if w.2.2 ≠ 0 ∨ 31 < w.1 then none else
  let b2 := b1.drop w.2.1
  let c := dec 0 0 b2
  if c.2.2 ≠ 0 ∨ 128 < c.1 then none else
  let b3 := b2.drop c.2.1
  let size := nby (n.1 * w.1)
  if b3.length < size then none else
  excD (hl w.1) w.1 c.1 0 (lowsD (b3.take size) n.1 w.1) (b3.drop size)
theorem drop_app {α : Type} (a b : List α) : (a ++ b).drop a.length = b := by simp
/-- The low parts of numbers. -/
theorem lowB_num (v : Nat) : ∀ w, numB (lowB v w) = v % 2 ^ w := by
  have key : ∀ w acc, numF acc (lowB v w) = acc * 2 ^ w + v % 2 ^ w := by
    intro w
    induction w with
    | zero => intro acc; simp [lowB, numF, Nat.mod_one]
    | succ w ih =>
      intro acc
      have h1 : numF acc (lowB v (w + 1)) = numF (2 * acc + (decide (v / 2 ^ w % 2 = 1)).toNat) (lowB v w) := rfl
      rw [h1, ih]
      have h2 : (decide (v / 2 ^ w % 2 = 1)).toNat = v / 2 ^ w % 2 := by
        rcases Nat.mod_two_eq_zero_or_one (v / 2 ^ w) with h | h <;> simp [h]
      rw [h2, Nat.pow_succ, Nat.mod_mul, Nat.add_mul, Nat.mul_comm (v / 2 ^ w % 2)]
      have : 2 * acc * 2 ^ w = acc * (2 ^ w * 2) := by rw [Nat.mul_comm 2 acc, Nat.mul_assoc, Nat.mul_comm 2]
      omega
  intro w
  have := key w 0
  simpa [numB] using this
theorem lowsB_at (w : Nat) : ∀ (l : List Nat) (i : Nat) (v : Nat), l[i]? = some v → ((lowsB w l).drop (i * w)).take w = lowB v w
  | [], i, v, h => by simp at h
  | x :: l, 0, v, h => by
    simp at h; subst h
    simp only [lowsB, Nat.zero_mul, List.drop_zero]
    rw [List.take_append_of_le_length (by rw [lowB_length]; exact Nat.le_refl _), List.take_of_length_le (by rw [lowB_length]; exact Nat.le_refl _)]
  | x :: l, i + 1, v, h => by
    simp only [lowsB]
    rw [show (i + 1) * w = (lowB x w).length + i * w by rw [lowB_length, Nat.add_mul]; omega, List.drop_append]
    rw [List.drop_of_length_le (by omega), List.nil_append, show (lowB x w).length + i * w - (lowB x w).length = i * w by omega]
    exact lowsB_at w l i v (by simpa using h)
theorem lowsD_enc (w : Nat) (l : List Nat) : lowsD (packL (lowsB w l)) l.length w = l.map fun v => v % 2 ^ w := by
  unfold lowsD
  apply List.ext_getElem?
  intro i
  rw [List.getElem?_map, List.getElem?_map]
  by_cases hi : i < l.length
  · rw [List.getElem?_range hi]
    obtain ⟨v, hv⟩ : ∃ v, l[i]? = some v := ⟨_, List.getElem?_eq_getElem hi⟩
    rw [hv]
    simp only [Option.map_some]
    unfold takeM
    rw [show l.length * w = (lowsB w l).length from (lowsB_length w l).symm, unpack_pack, lowsB_at w l i v hv, lowB_num]
  · rw [List.getElem?_eq_none (by simpa using hi), List.getElem?_eq_none (by omega)]
    rfl
/-- A number is its low and its high part. -/
theorem lo_hi (v w : Nat) : v % 2 ^ w ||| v / 2 ^ w * 2 ^ w = v := by
  apply Nat.eq_of_testBit_eq
  intro i
  rw [Nat.testBit_or, Nat.testBit_mod_two_pow, Nat.testBit_mul_two_pow, Nat.testBit_div_two_pow]
  by_cases h : i < w
  · simp [h, show ¬ w ≤ i by omega]
  · simp [h, show w ≤ i by omega, show i - w + w = i by omega]
/-- The exceptions of the numbers behind the first ones give these numbers. -/
theorem excD_enc (hl w : Nat) : ∀ (l p : List Nat) (d at1 : Nat) (rest : List UInt8), at1 + d = p.length + 1 → 1 ≤ d → p.length + l.length ≤ 128 → (∀ v ∈ l, v / 2 ^ w ≤ hl) → (∀ v ∈ l, v < 2 ^ 31) →
    excD hl w (exN w l) at1 (p ++ l.map fun v => v % 2 ^ w) (exB w d l ++ rest) = some (p ++ l)
  | [], p, d, at1, rest, h1, h2, h3, h4, h5 => by simp [exN, excD]
  | x :: l, p, d, at1, rest, h1, h2, h3, h4, h5 => by
    simp only [List.length_cons] at h3
    have e0 : p ++ (x :: l).map (fun v => v % 2 ^ w) = (p ++ [x % 2 ^ w]) ++ l.map fun v => v % 2 ^ w := by simp
    by_cases hx : x / 2 ^ w = 0
    · have hm : x % 2 ^ w = x := by have := lo_hi x w; rw [hx] at this; simpa using this
      have ih := excD_enc hl w l (p ++ [x]) (d + 1) at1 rest (by simp; omega) (by omega) (by simp; omega) (fun v hv => h4 v (by simp [hv])) (fun v hv => h5 v (by simp [hv]))
      rw [e0, hm]
      simp only [exN, exB, if_pos hx]
      rw [ih]; simp
    · have ih := excD_enc hl w l (p ++ [x]) 1 (at1 + d) rest (by simp; omega) (by omega) (by simp; omega) (fun v hv => h4 v (by simp [hv])) (fun v hv => h5 v (by simp [hv]))
      have hxl := h4 x (by simp)
      have hx31 := h5 x (by simp)
      have hq : x / 2 ^ w < 2 ^ 64 := Nat.lt_of_le_of_lt (Nat.div_le_self _ _) (by omega)
      simp only [exN, exB, if_neg hx]
      unfold excD
      have d1 : dec 0 0 (uv d ++ uv (x / 2 ^ w) ++ exB w 1 l ++ rest) = (d, (uv d).length, 0) := by
        rw [List.append_assoc, List.append_assoc]; exact dec_uv d _ (by omega)
      have r1 : (uv d ++ uv (x / 2 ^ w) ++ exB w 1 l ++ rest).drop (uv d).length = uv (x / 2 ^ w) ++ (exB w 1 l ++ rest) := by
        rw [List.append_assoc, List.append_assoc]; exact drop_app _ _
      have d2 : dec 0 0 (uv (x / 2 ^ w) ++ (exB w 1 l ++ rest)) = (x / 2 ^ w, (uv (x / 2 ^ w)).length, 0) := dec_uv _ _ hq
      simp only [d1, r1, d2]
      rw [if_neg (by omega), if_neg (by omega), if_neg (by simp; omega), drop_app]
      have hg : (p ++ (x :: l).map (fun v => v % 2 ^ w)).getD (at1 + d - 1) 0 = x % 2 ^ w := by
        rw [show at1 + d - 1 = p.length by omega]
        simp [List.getD]
      have hs : List.set (p ++ (x :: l).map (fun v => v % 2 ^ w)) (at1 + d - 1) x = (p ++ [x]) ++ l.map (fun v => v % 2 ^ w) := by
        rw [show at1 + d - 1 = p.length by omega, List.set_append_right _ _ (Nat.le_refl _)]; simp
      rw [hg, lo_hi, hs]
      rw [ih]; simp
/-- What is encoded is decoded again. -/
theorem decK_enc (hl : Nat → Nat) (w : Nat) (l : List Nat) (hw : w ≤ 31) (hok : okV l) (h : ∀ v ∈ l, v / 2 ^ w ≤ hl w) : decK hl (encM w l) = some l := by
  have e : encM w l = uv l.length ++ (uv w ++ (uv (exN w l) ++ (packL (lowsB w l) ++ exB w 1 l))) := by
    unfold encM; simp only [List.append_assoc]
  have hn := exN_le w l
  have hl8 := hok.1
  have d1 := dec_uv l.length (uv w ++ (uv (exN w l) ++ (packL (lowsB w l) ++ exB w 1 l))) (by omega)
  have d2 := dec_uv w (uv (exN w l) ++ (packL (lowsB w l) ++ exB w 1 l)) (by omega)
  have d3 := dec_uv (exN w l) (packL (lowsB w l) ++ exB w 1 l) (by omega)
  have hp : (packL (lowsB w l)).length = nby (l.length * w) := by rw [packL_length, lowsB_length]
  unfold decK
  rw [e]
  simp only [d1, drop_app, d2, d3]
  rw [if_neg (by omega), if_neg (by omega), if_neg (by omega), if_neg (by rw [List.length_append, hp]; omega), ← hp, drop_app, List.take_append_of_le_length (Nat.le_refl _), List.take_of_length_le (Nat.le_refl _), lowsD_enc]
  have := excD_enc (hl w) w l [] 1 0 [] rfl (Nat.le_refl _) (by simpa using hok.1) h hok.2
  simpa using this
/-- The bytes that are a block, and of which numbers. -/
def blkOf (hl : Nat → Nat) (b : List UInt8) : Option (List Nat) :=
  match decK hl b with
  | none => none
  | some l => if chkV (l.map Int.ofNat) = 0 ∧ packM l = b then some l else none
theorem blkOf_iff (hl : Nat → Nat) (hh : ∀ w, w ≤ 31 → ∀ v, v < 2 ^ 31 → v / 2 ^ w ≤ hl w) (b : List UInt8) (l : List Nat) : blkOf hl b = some l ↔ okV l ∧ packM l = b := by
  constructor
  · intro h
    unfold blkOf at h
    split at h
    · cases h
    · rename_i l' _
      split at h
      · rename_i hc
        injection h with h
        subst h
        obtain ⟨vs, he, hok⟩ := chkV_zero _ hc.1
        have : l' = vs := by
          have h2 := congrArg (List.map Int.toNat) he
          rw [List.map_map, List.map_map] at h2
          have e : ∀ k : List Nat, k.map (Int.toNat ∘ Int.ofNat) = k := fun k => by
            conv => rhs; rw [← List.map_id k]
            exact List.map_congr_left fun x _ => by simp
          rwa [e, e] at h2
        subst this
        exact ⟨hok, hc.2⟩
      · cases h
  · rintro ⟨hok, rfl⟩
    unfold blkOf
    have hd : decK hl (packM l) = some l := decK_enc hl (bestM l) l (bestM_lt l) hok fun v hv => hh _ (bestM_lt l) v (hok.2 v hv)
    rw [hd]
    exact if_pos ⟨chkV_ok l hok, rfl⟩
def hlP (w : Nat) : Nat := 2147483647 / 2 ^ w
def hlR (_ : Nat) : Nat := 2147483648
theorem hlP_ok : ∀ w, w ≤ 31 → ∀ v, v < 2 ^ 31 → v / 2 ^ w ≤ hlP w := fun w _ v h => Nat.div_le_div_right (by omega)
theorem hlR_ok : ∀ w, w ≤ 31 → ∀ v, v < 2 ^ 31 → v / 2 ^ w ≤ hlR w := fun w _ v h => by
  have := Nat.div_le_self v (2 ^ w)
  unfold hlR; omega
/-- Both limits give the same. -/
theorem blk_same (b : List UInt8) : blkOf hlP b = blkOf hlR b := by
  cases h : blkOf hlR b with
  | some l => exact (blkOf_iff hlP hlP_ok b l).2 ((blkOf_iff hlR hlR_ok b l).1 h)
  | none =>
    cases h2 : blkOf hlP b with
    | none => rfl
    | some l =>
      have := (blkOf_iff hlR hlR_ok b l).2 ((blkOf_iff hlP hlP_ok b l).1 h2)
      rw [h] at this; cases this
end Go.Proofs.Ytchcaidcohgjbaa
