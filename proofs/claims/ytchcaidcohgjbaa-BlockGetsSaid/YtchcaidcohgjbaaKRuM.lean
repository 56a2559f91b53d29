/- Plain facts of the reference's decoding of blocks. -/
import Derived.Test.YtchcaidcohgjbaaKGeW
namespace Go.Proofs.Ytchcaidcohgjbaa
set_option linter.unusedVariables false
/-- The first numbers of an encoding, and what follows. -/
def numsR : Nat → List UInt8 → Option (List Nat × List UInt8)
  | 0, b => some ([], b)
  | k + 1, b => match numsR k b with
    | none => none
    | some (l, r) => if (dec 0 0 r).2.2 ≠ 0 ∨ 128 < (dec 0 0 r).1 then none else some (l ++ [(dec 0 0 r).1], r.drop (dec 0 0 r).2.1)
theorem numsR_step {k : Nat} {b : List UInt8} {l : List Nat} {r : List UInt8} (h : numsR k b = some (l, r)) : numsR (k + 1) b = if (dec 0 0 r).2.2 ≠ 0 ∨ 128 < (dec 0 0 r).1 then none else some (l ++ [(dec 0 0 r).1], r.drop (dec 0 0 r).2.1) := by
  simp only [numsR, h]
theorem numsR_none : ∀ (j k : Nat) (b : List UInt8), k ≤ j → numsR k b = none → numsR j b = none
  | 0, k, b, h, hn => by obtain rfl : k = 0 := by omega
                         exact hn
  | j + 1, k, b, h, hn => by
    by_cases hk : k = j + 1
    · rw [← hk]; exact hn
    · have := numsR_none j k b (by omega) hn
      simp only [numsR, this]
theorem numsR_some : ∀ (k : Nat) (b : List UInt8) (l : List Nat) (r : List UInt8), numsR k b = some (l, r) → l.length = k ∧ (∀ x ∈ l, x ≤ 128) ∧ r.length ≤ b.length
  | 0, b, l, r, h => by simp [numsR] at h; obtain ⟨rfl, rfl⟩ := h; simp
  | k + 1, b, l, r, h => by
    cases h2 : numsR k b with
    | none => simp only [numsR, h2] at h; cases h
    | some p =>
      obtain ⟨l', r'⟩ := p
      rw [numsR_step h2] at h
      split at h
      · cases h
      · rename_i hc
        injection h with h
        injection h with h3 h4
        subst h3 h4
        obtain ⟨g1, g2, g3⟩ := numsR_some k b l' r' h2
        refine ⟨by simp [g1], fun x hx => ?_, by simp; omega⟩
        rcases List.mem_append.1 hx with h | h
        · exact g2 x h
        · rw [List.mem_singleton.1 h]
          rcases Nat.lt_or_ge 128 (dec 0 0 r').1 with h5 | h5
          · exact absurd (.inr h5) hc
          · exact h5
theorem decK_nums (hl : Nat → Nat) (b : List UInt8) : decK hl b = match numsR 3 b with
    | some ([n, w, c], r) => if 31 < w ∨ r.length < nby (n * w) then none else excD (hl w) w c 0 (lowsD (r.take (nby (n * w))) n w) (r.drop (nby (n * w)))
    | _ => none := by
  unfold decK
  simp only [numsR, List.nil_append]
  by_cases c1 : (dec 0 0 b).2.2 ≠ 0 ∨ 128 < (dec 0 0 b).1
  · simp only [if_pos c1]
  simp only [if_neg c1]
  by_cases c2 : (dec 0 0 (b.drop (dec 0 0 b).2.1)).2.2 ≠ 0 ∨ 128 < (dec 0 0 (b.drop (dec 0 0 b).2.1)).1
  · simp only [if_pos c2]
    rw [if_pos (c2.imp id (fun h => by omega))]
  simp only [if_neg c2]
  by_cases c3 : (dec 0 0 ((b.drop (dec 0 0 b).2.1).drop (dec 0 0 (b.drop (dec 0 0 b).2.1)).2.1)).2.2 ≠ 0 ∨ 128 < (dec 0 0 ((b.drop (dec 0 0 b).2.1).drop (dec 0 0 (b.drop (dec 0 0 b).2.1)).2.1)).1
  · simp only [if_pos c3]
    split <;> rfl
  · simp only [if_neg c3, List.cons_append, List.nil_append]
    by_cases c4 : 31 < (dec 0 0 (b.drop (dec 0 0 b).2.1)).1
    · rw [if_pos (.inr c4), if_pos (.inl c4)]
    · rw [if_neg (fun h => h.elim (fun h => c2 (.inl h)) c4)]
      by_cases c5 : (((b.drop (dec 0 0 b).2.1).drop (dec 0 0 (b.drop (dec 0 0 b).2.1)).2.1).drop (dec 0 0 ((b.drop (dec 0 0 b).2.1).drop (dec 0 0 (b.drop (dec 0 0 b).2.1)).2.1)).2.1).length < nby ((dec 0 0 b).1 * (dec 0 0 (b.drop (dec 0 0 b).2.1)).1)
      · rw [if_pos c5, if_pos (.inr c5)]
      · rw [if_neg c5, if_neg (fun h => h.elim c4 c5)]
theorem excR_step (hl w c at1 : Nat) (vs : List Nat) (b : List UInt8) :
    excD hl w (c + 1) at1 vs b = if ((dec 0 0 b).2.2 ≠ 0 ∨ (dec 0 0 (b.drop (dec 0 0 b).2.1)).2.2 ≠ 0 ∨ 128 < (dec 0 0 b).1) ∨ vs.length < at1 + (dec 0 0 b).1 ∨ at1 + (dec 0 0 b).1 < 1 ∨ hl < (dec 0 0 (b.drop (dec 0 0 b).2.1)).1 then none else
      excD hl w c (at1 + (dec 0 0 b).1) (vs.set (at1 + (dec 0 0 b).1 - 1) (vs.getD (at1 + (dec 0 0 b).1 - 1) 0 ||| (dec 0 0 (b.drop (dec 0 0 b).2.1)).1 * 2 ^ w)) (b.drop ((dec 0 0 b).2.1 + (dec 0 0 (b.drop (dec 0 0 b).2.1)).2.1)) := by
  conv => lhs; unfold excD
  simp only [List.drop_drop]
  by_cases c1 : (dec 0 0 b).2.2 ≠ 0 ∨ 128 < (dec 0 0 b).1
  · rw [if_pos c1, if_pos (.inl (c1.imp id (fun h => .inr h)))]
  rw [if_neg c1]
  by_cases c2 : (dec 0 0 (b.drop (dec 0 0 b).2.1)).2.2 ≠ 0 ∨ hl < (dec 0 0 (b.drop (dec 0 0 b).2.1)).1
  · rw [if_pos c2, if_pos (c2.elim (fun h => .inl (.inr (.inl h))) (fun h => .inr (.inr (.inr h))))]
  rw [if_neg c2]
  by_cases c3 : at1 + (dec 0 0 b).1 < 1 ∨ vs.length < at1 + (dec 0 0 b).1
  · rw [if_pos c3, if_pos (.inr (c3.elim (fun h => .inr (.inl h)) (fun h => .inl h)))]
  · rw [if_neg c3, if_neg]
    intro h
    rcases h with (h | h | h) | h | h | h
    · exact c1 (.inl h)
    · exact c2 (.inl h)
    · exact c1 (.inr h)
    · exact c3 (.inr h)
    · exact c3 (.inl h)
    · exact c2 (.inr h)
end Go.Proofs.Ytchcaidcohgjbaa
