/- Bits as bytes: the plain law, and what a Writer of bits holds in memory. Nothing of the program is named here but types' numbers. -/
import Derived.Test.YtbicpnhgokngeaaApp
namespace Go.Proofs.Ytbicpnhgokngeaa
open Go.RowKit
set_option linter.unusedVariables false

/-- A byte of eight bits, the first the most significant. -/
def B8 (x : Nat → Bool) : UInt8 := UInt8.ofNat ((x 0).toNat * 128 + (x 1).toNat * 64 + (x 2).toNat * 32 + (x 3).toNat * 16 + (x 4).toNat * 8 + (x 5).toNat * 4 + (x 6).toNat * 2 + (x 7).toNat)
def byteAt (l : List Bool) (j : Nat) : UInt8 := B8 fun k => l.getD (8 * j + k) false
def nby (n : Nat) : Nat := (n + 7) / 8
def packL (l : List Bool) : List UInt8 := (List.range (nby l.length)).map (byteAt l)
def bitv (k : Nat) : UInt8 := UInt8.ofNat (2 ^ (7 - k))
theorem packL_length (l : List Bool) : (packL l).length = nby l.length := by simp [packL]
theorem B8_or (k : Nat) (hk : k < 8) (x y : Nat → Bool) (b : Bool) (hy : ∀ i, i ≠ k → y i = x i) (hx : x k = false) (hb : y k = b) : B8 y = B8 x ||| (if b then bitv k else 0) := by
  have h : ∀ b0 b1 b2 b3 b4 b5 b6 b7 b : Bool,
      (b0 = false → UInt8.ofNat (b.toNat * 128 + b1.toNat * 64 + b2.toNat * 32 + b3.toNat * 16 + b4.toNat * 8 + b5.toNat * 4 + b6.toNat * 2 + b7.toNat) = UInt8.ofNat (b0.toNat * 128 + b1.toNat * 64 + b2.toNat * 32 + b3.toNat * 16 + b4.toNat * 8 + b5.toNat * 4 + b6.toNat * 2 + b7.toNat) ||| (if b then bitv 0 else 0)) ∧
      (b1 = false → UInt8.ofNat (b0.toNat * 128 + b.toNat * 64 + b2.toNat * 32 + b3.toNat * 16 + b4.toNat * 8 + b5.toNat * 4 + b6.toNat * 2 + b7.toNat) = UInt8.ofNat (b0.toNat * 128 + b1.toNat * 64 + b2.toNat * 32 + b3.toNat * 16 + b4.toNat * 8 + b5.toNat * 4 + b6.toNat * 2 + b7.toNat) ||| (if b then bitv 1 else 0)) ∧
      (b2 = false → UInt8.ofNat (b0.toNat * 128 + b1.toNat * 64 + b.toNat * 32 + b3.toNat * 16 + b4.toNat * 8 + b5.toNat * 4 + b6.toNat * 2 + b7.toNat) = UInt8.ofNat (b0.toNat * 128 + b1.toNat * 64 + b2.toNat * 32 + b3.toNat * 16 + b4.toNat * 8 + b5.toNat * 4 + b6.toNat * 2 + b7.toNat) ||| (if b then bitv 2 else 0)) ∧
      (b3 = false → UInt8.ofNat (b0.toNat * 128 + b1.toNat * 64 + b2.toNat * 32 + b.toNat * 16 + b4.toNat * 8 + b5.toNat * 4 + b6.toNat * 2 + b7.toNat) = UInt8.ofNat (b0.toNat * 128 + b1.toNat * 64 + b2.toNat * 32 + b3.toNat * 16 + b4.toNat * 8 + b5.toNat * 4 + b6.toNat * 2 + b7.toNat) ||| (if b then bitv 3 else 0)) ∧
      (b4 = false → UInt8.ofNat (b0.toNat * 128 + b1.toNat * 64 + b2.toNat * 32 + b3.toNat * 16 + b.toNat * 8 + b5.toNat * 4 + b6.toNat * 2 + b7.toNat) = UInt8.ofNat (b0.toNat * 128 + b1.toNat * 64 + b2.toNat * 32 + b3.toNat * 16 + b4.toNat * 8 + b5.toNat * 4 + b6.toNat * 2 + b7.toNat) ||| (if b then bitv 4 else 0)) ∧
      (b5 = false → UInt8.ofNat (b0.toNat * 128 + b1.toNat * 64 + b2.toNat * 32 + b3.toNat * 16 + b4.toNat * 8 + b.toNat * 4 + b6.toNat * 2 + b7.toNat) = UInt8.ofNat (b0.toNat * 128 + b1.toNat * 64 + b2.toNat * 32 + b3.toNat * 16 + b4.toNat * 8 + b5.toNat * 4 + b6.toNat * 2 + b7.toNat) ||| (if b then bitv 5 else 0)) ∧
      (b6 = false → UInt8.ofNat (b0.toNat * 128 + b1.toNat * 64 + b2.toNat * 32 + b3.toNat * 16 + b4.toNat * 8 + b5.toNat * 4 + b.toNat * 2 + b7.toNat) = UInt8.ofNat (b0.toNat * 128 + b1.toNat * 64 + b2.toNat * 32 + b3.toNat * 16 + b4.toNat * 8 + b5.toNat * 4 + b6.toNat * 2 + b7.toNat) ||| (if b then bitv 6 else 0)) ∧
      (b7 = false → UInt8.ofNat (b0.toNat * 128 + b1.toNat * 64 + b2.toNat * 32 + b3.toNat * 16 + b4.toNat * 8 + b5.toNat * 4 + b6.toNat * 2 + b.toNat) = UInt8.ofNat (b0.toNat * 128 + b1.toNat * 64 + b2.toNat * 32 + b3.toNat * 16 + b4.toNat * 8 + b5.toNat * 4 + b6.toNat * 2 + b7.toNat) ||| (if b then bitv 7 else 0)) := by decide +kernel
  obtain ⟨h0, h1, h2, h3, h4, h5, h6, h7⟩ := h (x 0) (x 1) (x 2) (x 3) (x 4) (x 5) (x 6) (x 7) b
  unfold B8
  match k, hk with
  | 0, _ => rw [hb, hy 1 (by decide), hy 2 (by decide), hy 3 (by decide), hy 4 (by decide), hy 5 (by decide), hy 6 (by decide), hy 7 (by decide)]; exact h0 hx
  | 1, _ => rw [hb, hy 0 (by decide), hy 2 (by decide), hy 3 (by decide), hy 4 (by decide), hy 5 (by decide), hy 6 (by decide), hy 7 (by decide)]; exact h1 hx
  | 2, _ => rw [hb, hy 0 (by decide), hy 1 (by decide), hy 3 (by decide), hy 4 (by decide), hy 5 (by decide), hy 6 (by decide), hy 7 (by decide)]; exact h2 hx
  | 3, _ => rw [hb, hy 0 (by decide), hy 1 (by decide), hy 2 (by decide), hy 4 (by decide), hy 5 (by decide), hy 6 (by decide), hy 7 (by decide)]; exact h3 hx
  | 4, _ => rw [hb, hy 0 (by decide), hy 1 (by decide), hy 2 (by decide), hy 3 (by decide), hy 5 (by decide), hy 6 (by decide), hy 7 (by decide)]; exact h4 hx
  | 5, _ => rw [hb, hy 0 (by decide), hy 1 (by decide), hy 2 (by decide), hy 3 (by decide), hy 4 (by decide), hy 6 (by decide), hy 7 (by decide)]; exact h5 hx
  | 6, _ => rw [hb, hy 0 (by decide), hy 1 (by decide), hy 2 (by decide), hy 3 (by decide), hy 4 (by decide), hy 5 (by decide), hy 7 (by decide)]; exact h6 hx
  | 7, _ => rw [hb, hy 0 (by decide), hy 1 (by decide), hy 2 (by decide), hy 3 (by decide), hy 4 (by decide), hy 5 (by decide), hy 6 (by decide)]; exact h7 hx

/-- The bytes ahead of the new bit: a byte 0 more where the last one is full. -/
def preL (l : List Bool) : List UInt8 := if l.length % 8 = 0 then packL l ++ [0] else packL l
theorem byteAt_far (l : List Bool) (x : Bool) (i : Nat) (h : i ≠ l.length / 8) : byteAt (l ++ [x]) i = byteAt l i := by
  have e : ∀ k, k < 8 → (l ++ [x]).getD (8 * i + k) false = l.getD (8 * i + k) false := fun k hk => by
    rcases Nat.lt_trichotomy (8 * i + k) l.length with h1 | h1 | h1
    · simp [List.getD, List.getElem?_append_left h1]
    · exfalso; apply h; omega
    · simp only [List.getD]
      rw [List.getElem?_eq_none (by simp; omega), List.getElem?_eq_none (by omega)]
  unfold byteAt B8
  simp only []
  rw [e 0 (by omega), e 1 (by omega), e 2 (by omega), e 3 (by omega), e 4 (by omega), e 5 (by omega), e 6 (by omega), e 7 (by omega)]
theorem byteAt_at (l : List Bool) (x : Bool) : byteAt (l ++ [x]) (l.length / 8) = byteAt l (l.length / 8) ||| (if x then bitv (l.length % 8) else 0) := by
  refine B8_or (l.length % 8) (by omega) _ _ x (fun i hi => ?_) ?_ ?_
  · rcases Nat.lt_or_ge (8 * (l.length / 8) + i) l.length with h1 | h1
    · simp [List.getD, List.getElem?_append_left h1]
    · simp only [List.getD]
      rw [List.getElem?_eq_none (by simp; omega), List.getElem?_eq_none (by omega)]
  · simp only [List.getD]
    rw [List.getElem?_eq_none (by omega)]; rfl
  · simp only [List.getD]
    rw [show 8 * (l.length / 8) + l.length % 8 = l.length by omega]
    simp
theorem byteAt_none (l : List Bool) (j : Nat) (h : l.length ≤ 8 * j) : byteAt l j = 0 := by
  have e : ∀ k, l.getD (8 * j + k) false = false := fun k => by simp only [List.getD]; rw [List.getElem?_eq_none (by omega)]; rfl
  unfold byteAt B8
  simp only [e]
  rfl
theorem preL_length (l : List Bool) : (preL l).length = nby (l.length + 1) := by
  unfold preL nby
  split
  · simp [packL, nby]; omega
  · simp [packL, nby]; omega
theorem preL_get (l : List Bool) (i : Nat) (hi : i < nby (l.length + 1)) : (preL l)[i]? = some (byteAt l i) := by
  unfold preL
  unfold nby at hi
  split
  · rename_i h
    by_cases h1 : i < nby l.length
    · rw [List.getElem?_append_left (by simpa [packL] using h1)]
      simp [packL, h1]
    · unfold nby at h1
      have : i = nby l.length := by unfold nby; omega
      subst this
      rw [List.getElem?_append_right (by simp [packL]), byteAt_none l _ (by unfold nby; omega)]
      simp [packL]
  · rename_i h
    have h1 : i < nby l.length := by unfold nby; omega
    simp [packL, h1]
theorem pack_put (l : List Bool) (x : Bool) : packL (l ++ [x]) = if x then (preL l).set (l.length / 8) (byteAt l (l.length / 8) ||| bitv (l.length % 8)) else preL l := by
  apply List.ext_getElem?
  intro i
  have hl : (packL (l ++ [x])).length = nby (l.length + 1) := by simp [packL]
  have hlt : l.length / 8 < nby (l.length + 1) := by unfold nby; omega
  rcases Nat.lt_or_ge i (nby (l.length + 1)) with h | h
  · have e1 : (packL (l ++ [x]))[i]? = some (byteAt (l ++ [x]) i) := by
      simp [packL, h]
    rw [e1]
    by_cases hi : i = l.length / 8
    · subst hi
      rw [byteAt_at]
      cases x
      · simp [preL_get l _ h]
      · simp [preL_length, h]
    · rw [byteAt_far l x i hi]
      cases x
      · simp [preL_get l i h]
      · simp only [if_true]
        rw [List.getElem?_set_ne (by omega), preL_get l i h]
  · rw [List.getElem?_eq_none (by omega)]
    cases x
    · simp only [Bool.false_eq_true, if_false]
      rw [List.getElem?_eq_none (by rw [preL_length]; omega)]
    · simp only [if_true]
      rw [List.getElem?_eq_none (by rw [List.length_set, preL_length]; omega)]

/-! ### A Writer in memory -/
/-- The Writer in block g holds the bits l; its bytes lie in a row of the call's own, in block r. -/
def WrS (w : World) (base g : Nat) (r : Option Nat) (l : List Bool) : Prop :=
  ∃ v, w.heap[g]? = some (.cells #[v, .int .i64 (l.length : Int)] 58 (0, 0)) ∧ base ≤ g ∧ w.ownsRow base 5 1 v (packL l).length ((packL l).map u8v) ∧ v.ownBlock = r
/-- Only blocks g and r may have turned. -/
structure Ch (g : Nat) (r : Option Nat) (w w' : World) : Prop where
  os : w'.os = w.os
  tape : w'.tape = w.tape
  output : w'.output = w.output
  size : w.heap.size ≤ w'.heap.size
  block : ∀ k, k < w.heap.size → k ≠ g → some k ≠ r → w'.heap[k]? = w.heap[k]?
def WStep (base g : Nat) (r : Option Nat) (w : World) (l' : List Bool) (w' : World) : Prop :=
  ∃ r', WrS w' base g r' l' ∧ Ch g r w w' ∧ (r' = r ∨ ∃ k, r' = some k ∧ w.heap.size ≤ k)
theorem Ch.refl (g : Nat) (r : Option Nat) (w : World) : Ch g r w w := ⟨rfl, rfl, rfl, Nat.le_refl _, fun _ _ _ _ => rfl⟩
theorem Ch.trans {g : Nat} {r r1 : Option Nat} {w w1 w2 : World} (h : Ch g r w w1) (h1 : Ch g r1 w1 w2) (hr : r1 = r ∨ ∃ k, r1 = some k ∧ w.heap.size ≤ k) : Ch g r w w2 := by
  refine ⟨h1.os.trans h.os, h1.tape.trans h.tape, h1.output.trans h.output, Nat.le_trans h.size h1.size, fun k hk hg hkr => ?_⟩
  rw [h1.block k (Nat.lt_of_lt_of_le hk h.size) hg ?_, h.block k hk hg hkr]
  rcases hr with rfl | ⟨m, rfl, hm⟩
  · exact hkr
  · intro e; injection e with e; omega
theorem Ch.of_below {g : Nat} {r : Option Nat} {w w' : World} (h : Below w.heap.size w w') : Ch g r w w' := ⟨h.os, h.tape, h.output, h.size, fun k hk _ _ => h.block k hk⟩
theorem WStep.refl {base g : Nat} {r : Option Nat} {w : World} {l : List Bool} (h : WrS w base g r l) : WStep base g r w l w := ⟨r, h, Ch.refl _ _ _, .inl rfl⟩
theorem WStep.trans {base g : Nat} {r : Option Nat} {w w1 w2 : World} {l2 : List Bool} {r1 : Option Nat} (hc : Ch g r w w1) (hr : r1 = r ∨ ∃ k, r1 = some k ∧ w.heap.size ≤ k)
    (h2 : WStep base g r1 w1 l2 w2) : WStep base g r w l2 w2 := by
  obtain ⟨r2, hs2, hc2, hr2⟩ := h2
  refine ⟨r2, hs2, hc.trans hc2 hr, ?_⟩
  rcases hr2 with rfl | ⟨k, rfl, hk⟩
  · exact hr
  · exact .inr ⟨k, rfl, Nat.le_trans hc.size hk⟩
theorem WrS.lt {w : World} {base g : Nat} {r : Option Nat} {l : List Bool} (h : WrS w base g r l) : g < w.heap.size ∧ base ≤ g ∧ ∀ k, r = some k → base ≤ k ∧ k < w.heap.size := by
  obtain ⟨v, hg, hb, ho, rfl⟩ := h
  exact ⟨(Array.getElem?_eq_some_iff.1 hg).1, hb, fun k hk => ho.lt k hk⟩
theorem Ch.below {base g : Nat} {r : Option Nat} {w w' : World} (h : Ch g r w w') (hg : base ≤ g) (hr : ∀ k, r = some k → base ≤ k) (hbs : base ≤ w.heap.size) : Below base w w' :=
  ⟨h.os, h.tape, h.output, h.size, fun k hk => h.block k (by omega) (by omega) (fun e => by have := hr k e.symm; omega)⟩
/-- What lies in other blocks stays. -/
theorem WrS.keep {w w' : World} {base g : Nat} {r : Option Nat} {l : List Bool} (h : WrS w base g r l) (hg : w'.heap[g]? = w.heap[g]?) (hr : ∀ k, r = some k → w'.heap[k]? = w.heap[k]?) : WrS w' base g r l := by
  obtain ⟨v, h1, hb, ho, rfl⟩ := h
  refine ⟨v, hg.trans h1, hb, ⟨ho.1, ?_⟩, rfl⟩
  rcases ho.2 with h | ⟨g', cap, cur, rfl, h2, h3, h4⟩
  · exact .inl h
  · exact .inr ⟨g', cap, cur, rfl, h2, (hr g' rfl).trans h3, h4⟩
theorem WrS.below {w w' : World} {base g : Nat} {r : Option Nat} {l : List Bool} (h : WrS w base g r l) (hb : Below w.heap.size w w') : WrS w' base g r l :=
  h.keep (hb.block g h.lt.1) (fun k hk => hb.block k (h.lt.2.2 k hk).2)
/-- The row of a Writer is no Writer's block. -/
theorem own_ne {w : World} {base g : Nat} {v : Value} {n : Nat} {xs : List Value} {cs : Array Value} (ho : w.ownsRow base 5 1 v n xs) (hg : w.heap[g]? = some (.cells cs 58 (0, 0))) : v.ownBlock ≠ some g := by
  intro he
  rcases ho.2 with ⟨rfl, _⟩ | ⟨g', cap, cur, rfl, _, h3, _⟩
  · simp [Value.ownBlock] at he
  · simp [Value.ownBlock] at he
    subst he
    rw [hg] at h3
    simp at h3
end Go.Proofs.Ytbicpnhgokngeaa
