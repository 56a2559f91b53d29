/- The plain law of inverted lists: gaps, their bits, the skip table, seeking. -/
import Derived.Test.YtbicpnhgokngeaaRtM
import Derived.Test.YtbicpnhgokngeaaLM
namespace Go.Proofs.Ytbicpnhgokngeaa
set_option linter.unusedVariables false
def delB (g : Nat) : List Bool := gamB (Lib.bitLen g) ++ lowB g (Lib.bitLen g - 1)
theorem wDelta_del (g : Nat) (h : g ≠ 0) : wDelta g = some (delB g) := by unfold wDelta; rw [if_neg h]; rfl
theorem delB_len (g : Nat) (h : g < 2 ^ 64) : (delB g).length ≤ 200 := by
  have h1 := bl_64 g h
  have h2 : Lib.bitLen (Lib.bitLen g) ≤ 7 := (bl_le _ 7 (by omega)).2 (by omega)
  unfold delB gamB
  simp only [List.length_append, List.length_replicate, lowB_length]
  omega
/-- The position in front of an index, plus one. -/
def befQ (l : List Nat) (k : Nat) : Nat := if k = 0 then 0 else l.getD (k - 1) 0 + 1
def gapQ (l : List Nat) (k : Nat) : Nat := l.getD k 0 + 1 - befQ l k
/-- The bits of the first gaps. -/
def upQ (l : List Nat) (k : Nat) : List Bool := (List.range k).flatMap fun i => delB (gapQ l i)
def posQ (l : List Nat) (k : Nat) : Nat := (upQ l k).length
theorem upQ_succ (l : List Nat) (k : Nat) : upQ l (k + 1) = upQ l k ++ delB (gapQ l k) := by
  unfold upQ
  rw [List.range_succ, List.flatMap_append]; simp
theorem upQ_split (l : List Nat) : ∀ (n k : Nat), k < n → ∃ R, upQ l n = upQ l k ++ (delB (gapQ l k) ++ R)
  | 0, k, h => absurd h (by omega)
  | n + 1, k, h => by
    by_cases hk : k = n
    · subst hk; exact ⟨[], by rw [upQ_succ]; simp⟩
    · obtain ⟨R, hR⟩ := upQ_split l n k (by omega)
      exact ⟨R ++ delB (gapQ l n), by rw [upQ_succ, hR]; simp⟩
/-- Ascending positions that may be a list. -/
def okQ (l : List Nat) : Prop := l.Pairwise (· < ·) ∧ ∀ x ∈ l, x < 2 ^ 31
theorem okQ_lt {l : List Nat} (h : okQ l) {i j x y : Nat} (hi : l[i]? = some x) (hj : l[j]? = some y) (hij : i < j) : x < y := by
  obtain ⟨h1, rfl⟩ := List.getElem?_eq_some_iff.1 hi
  obtain ⟨h2, rfl⟩ := List.getElem?_eq_some_iff.1 hj
  exact List.pairwise_iff_getElem.1 h.1 i j h1 h2 hij
theorem getD_at {l : List Nat} {k x : Nat} (h : l[k]? = some x) : l.getD k 0 = x := by simp [List.getD, h]
theorem gapQ_ok {l : List Nat} (h : okQ l) {k x : Nat} (hk : l[k]? = some x) : gapQ l k ≠ 0 ∧ gapQ l k < 2 ^ 32 ∧ befQ l k + gapQ l k = x + 1 := by
  have hx := h.2 x (List.mem_of_getElem? hk)
  have hb : befQ l k ≤ x := by
    unfold befQ
    by_cases h0 : k = 0
    · rw [if_pos h0]; omega
    · rw [if_neg h0]
      obtain ⟨y, hy⟩ : ∃ y, l[k - 1]? = some y := ⟨_, List.getElem?_eq_getElem (by have := (List.getElem?_eq_some_iff.1 hk).1; omega)⟩
      rw [getD_at hy]
      exact okQ_lt h hy hk (by omega)
  unfold gapQ
  rw [getD_at hk]
  omega
theorem befQ_succ {l : List Nat} {k x : Nat} (hk : l[k]? = some x) : befQ l (k + 1) = x + 1 := by
  unfold befQ
  rw [if_neg (by omega), Nat.add_sub_cancel, getD_at hk]
/-- A gap is read where it begins. -/
theorem read_gap {l : List Nat} (h : okQ l) {k : Nat} (hk : k < l.length) : deltaM (upQ l l.length) (posQ l k) = (gapQ l k, posQ l (k + 1), 0) := by
  obtain ⟨x, hx⟩ : ∃ x, l[k]? = some x := ⟨_, List.getElem?_eq_getElem hk⟩
  obtain ⟨h1, h2, _⟩ := gapQ_ok h hx
  obtain ⟨R, hR⟩ := upQ_split l l.length k hk
  have := rt_delta (upQ l k) R (gapQ l k) h1 (by omega)
  rw [hR]
  unfold posQ
  rw [upQ_succ, List.length_append]
  exact this
theorem posQ_le {l : List Nat} (h : okQ l) : ∀ k, k ≤ l.length → posQ l k ≤ 200 * k
  | 0, _ => by simp [posQ, upQ]
  | k + 1, hk => by
    obtain ⟨x, hx⟩ : ∃ x, l[k]? = some x := ⟨_, List.getElem?_eq_getElem (by omega)⟩
    have h1 := (gapQ_ok h hx).2.1
    have h2 := delB_len (gapQ l k) (by omega)
    have h3 := posQ_le h k (by omega)
    unfold posQ at *
    rw [upQ_succ, List.length_append]; omega
/-- A list that is walked. -/
def szQ (l : List Nat) : Prop := l.length ≤ 5000 ∧ posQ l l.length ≤ 60000
theorem szQ_of {l : List Nat} (h : okQ l) (hl : l.length ≤ 300) : szQ l := ⟨by omega, by have := posQ_le h l.length (Nat.le_refl _); omega⟩
theorem posQ_mono (l : List Nat) : ∀ k n, k ≤ n → posQ l k ≤ posQ l n
  | k, 0, h => by obtain rfl : k = 0 := by omega
                  exact Nat.le_refl _
  | k, n + 1, h => by
    by_cases hk : k = n + 1
    · rw [hk]; exact Nat.le_refl _
    · have := posQ_mono l k n (by omega)
      unfold posQ at *
      rw [upQ_succ, List.length_append]; omega
/-! ### The skip table -/
def skQ (l : List Nat) (n : Nat) : List (Nat × Nat) := (List.range ((n + 15) / 16)).map fun k => (l.getD (16 * k) 0, posQ l (16 * k))
theorem skQ_new (l : List Nat) (n : Nat) (h : n % 16 = 0) : skQ l (n + 1) = skQ l n ++ [(l.getD n 0, posQ l n)] := by
  unfold skQ
  rw [show (n + 1 + 15) / 16 = n / 16 + 1 by omega, show (n + 15) / 16 = n / 16 by omega, List.range_succ, List.map_append]
  simp [show 16 * (n / 16) = n by omega]
theorem skQ_old (l : List Nat) (n : Nat) (h : n % 16 ≠ 0) : skQ l (n + 1) = skQ l n := by
  unfold skQ
  rw [show (n + 1 + 15) / 16 = (n + 15) / 16 by omega]
theorem skQ_length (l : List Nat) (n : Nat) : (skQ l n).length = (n + 15) / 16 := by simp [skQ]
theorem skQ_at (l : List Nat) (n k : Nat) (h : 16 * k < n) : (skQ l n)[k]? = some (l.getD (16 * k) 0, posQ l (16 * k)) := by
  unfold skQ
  rw [List.getElem?_map, List.getElem?_range (by omega)]; rfl
/-! ### Seeking -/
/-- How many positions are less. -/
def rankQ (l : List Nat) (p : Int) : Nat := l.findIdx fun (x : Nat) => decide (p ≤ (x : Int))
theorem rankQ_le (l : List Nat) (p : Int) : rankQ l p ≤ l.length := List.findIdx_le_length
theorem rankQ_eq {l : List Nat} {p : Int} {i : Nat} (h1 : ∀ j x, j < i → l[j]? = some x → (x : Int) < p) (h2 : i = l.length ∨ ∃ x, l[i]? = some x ∧ p ≤ (x : Int)) : rankQ l p = i := by
  unfold rankQ
  rcases h2 with rfl | ⟨x, hx, hp⟩
  · apply List.findIdx_eq_length.2
    intro x hx
    obtain ⟨j, hj, rfl⟩ := List.mem_iff_getElem.1 hx
    have := h1 j _ hj (List.getElem?_eq_getElem hj)
    simp; omega
  · obtain ⟨hi, rfl⟩ := List.getElem?_eq_some_iff.1 hx
    apply (List.findIdx_eq hi).2
    refine ⟨by simpa using hp, fun j hj => ?_⟩
    have := h1 j _ hj (List.getElem?_eq_getElem (by omega))
    simp; omega
end Go.Proofs.Ytbicpnhgokngeaa
