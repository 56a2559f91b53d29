/- The plain law of blocks: lists of numbers alone. -/
import Derived.Test.YtchcaidcohgjbaaLenW
import Derived.Test.YtchcaidcohgjbaaBits
namespace Go.Proofs.Ytchcaidcohgjbaa
set_option linter.unusedVariables false

/-- The exceptions of the numbers behind a gap d. -/
def exB (w : Nat) : Nat → List Nat → List UInt8
  | _, [] => []
  | d, v :: l => if v / 2 ^ w = 0 then exB w (d + 1) l else uv d ++ uv (v / 2 ^ w) ++ exB w 1 l
def exN (w : Nat) : List Nat → Nat
  | [] => 0
  | v :: l => if v / 2 ^ w = 0 then exN w l else exN w l + 1
def gapD (w : Nat) : Nat → List Nat → Nat
  | d, [] => d
  | d, v :: l => if v / 2 ^ w = 0 then gapD w (d + 1) l else gapD w 1 l
def lowsB (w : Nat) : List Nat → List Bool
  | [] => []
  | v :: l => lowB v w ++ lowsB w l
def encM (w : Nat) (l : List Nat) : List UInt8 := uv l.length ++ uv w ++ uv (exN w l) ++ packL (lowsB w l) ++ exB w 1 l
theorem exB_snoc (w : Nat) (v : Nat) : ∀ (l : List Nat) (d : Nat), exB w d (l ++ [v]) = exB w d l ++ if v / 2 ^ w = 0 then [] else uv (gapD w d l) ++ uv (v / 2 ^ w)
  | [], d => by by_cases h : v / 2 ^ w = 0 <;> simp [exB, gapD, h]
  | x :: l, d => by
    by_cases h : x / 2 ^ w = 0
    · simp only [List.cons_append, exB, gapD, if_pos h]; exact exB_snoc w v l (d + 1)
    · simp only [List.cons_append, exB, gapD, if_neg h]; rw [exB_snoc w v l 1]; simp only [List.append_assoc]
theorem exN_snoc (w : Nat) (v : Nat) : ∀ (l : List Nat), exN w (l ++ [v]) = if v / 2 ^ w = 0 then exN w l else exN w l + 1
  | [] => by simp [exN]
  | x :: l => by
    by_cases h : x / 2 ^ w = 0
    · simp only [List.cons_append, exN, if_pos h]; exact exN_snoc w v l
    · simp only [List.cons_append, exN, if_neg h]; rw [exN_snoc w v l]
      by_cases h2 : v / 2 ^ w = 0 <;> simp [h2]
theorem gapD_snoc (w : Nat) (v : Nat) : ∀ (l : List Nat) (d : Nat), gapD w d (l ++ [v]) = if v / 2 ^ w = 0 then gapD w d l + 1 else 1
  | [], d => by simp [gapD]
  | x :: l, d => by
    by_cases h : x / 2 ^ w = 0
    · simp only [List.cons_append, gapD, if_pos h]; exact gapD_snoc w v l (d + 1)
    · simp only [List.cons_append, gapD, if_neg h]; exact gapD_snoc w v l 1
theorem lowsB_snoc (w : Nat) (v : Nat) : ∀ (l : List Nat), lowsB w (l ++ [v]) = lowsB w l ++ lowB v w
  | [] => by simp [lowsB]
  | x :: l => by simp only [List.cons_append, lowsB, lowsB_snoc w v l, List.append_assoc]
theorem gapD_le (w : Nat) : ∀ (l : List Nat) (d : Nat), 1 ≤ d → 1 ≤ gapD w d l ∧ gapD w d l ≤ d + l.length
  | [], d, h => ⟨h, by simp [gapD]⟩
  | x :: l, d, h => by
    by_cases hx : x / 2 ^ w = 0
    · simp only [gapD, if_pos hx, List.length_cons]
      have := gapD_le w l (d + 1) (by omega); omega
    · simp only [gapD, if_neg hx, List.length_cons]
      have := gapD_le w l 1 (Nat.le_refl _); omega
theorem lowsB_length (w : Nat) : ∀ l : List Nat, (lowsB w l).length = l.length * w
  | [] => by simp [lowsB]
  | x :: l => by
    simp only [lowsB, List.length_append, lowB_length, lowsB_length w l, List.length_cons]
    rw [Nat.add_mul]; omega
theorem exN_le (w : Nat) : ∀ l : List Nat, exN w l ≤ l.length
  | [] => by simp [exN]
  | x :: l => by
    have := exN_le w l
    simp only [exN, List.length_cons]
    split <;> omega
/-! ### The number of bytes of a number -/
theorem bl_128 (v : Nat) (h : 128 ≤ v) (hv : v < 2 ^ 64) : Lib.bitLen v = Lib.bitLen (v / 128) + 7 := by
  rw [bl_pos v (by omega) hv, bl_pos (v / 2) (by omega) (by omega), bl_pos (v / 2 / 2) (by omega) (by omega), bl_pos (v / 2 / 2 / 2) (by omega) (by omega), bl_pos (v / 2 / 2 / 2 / 2) (by omega) (by omega), bl_pos (v / 2 / 2 / 2 / 2 / 2) (by omega) (by omega), bl_pos (v / 2 / 2 / 2 / 2 / 2 / 2) (by omega) (by omega)]
  rw [show v / 2 / 2 / 2 / 2 / 2 / 2 / 2 = v / 128 by omega]
theorem uvF_len : ∀ (n v : Nat), v < 2 ^ 64 → v < 128 ^ (n + 1) → (uvF n v).length = (max (Lib.bitLen v) 1 + 6) / 7
  | n, v, h64, h => by
    by_cases hv : v < 128
    · rw [uvF_small n v hv]
      have := (bl_le v 7 h64).2 (by simpa using hv)
      simp only [List.length_singleton]
      omega
    · cases n with
      | zero => simp at h; omega
      | succ n =>
        rw [uvF_big n v (by omega), List.length_cons, uvF_len n (v / 128) (by omega) (by rw [Nat.pow_succ] at h; omega), bl_128 v (by omega) h64]
        have : 1 ≤ Lib.bitLen (v / 128) := by rw [bl_pos (v / 128) (by omega) (by omega)]; omega
        omega
theorem uv_len (v : Nat) (h : v < 2 ^ 64) : (uv v).length = (max (Lib.bitLen v) 1 + 6) / 7 := uvF_len 9 v h (by omega)
theorem uv_le10 (v : Nat) : 1 ≤ (uv v).length ∧ (uv v).length ≤ 10 := by have := uvF_length 9 v; exact ⟨this.1, this.2⟩
theorem uv_one (v : Nat) (h : v < 128) : (uv v).length = 1 := by unfold uv; rw [uvF_small 9 v h]; rfl
theorem uv_two (v : Nat) (h : v < 16384) : (uv v).length ≤ 2 := by
  rw [uv_len v (by omega)]
  have := (bl_le v 14 (by omega)).2 (by simpa using h)
  omega
theorem uv_five (v : Nat) (h : v < 2 ^ 31) : (uv v).length ≤ 5 := by
  rw [uv_len v (by omega)]
  have := (bl_le v 31 (by omega)).2 h
  omega
theorem encM_length (w : Nat) (l : List Nat) : (encM w l).length = (exB w 1 l).length + (uv l.length).length + (uv w).length + (uv (exN w l)).length + nby (l.length * w) := by
  unfold encM
  simp only [List.length_append, packL_length, lowsB_length]
  omega
/-! ### The least cost -/
def bst (f : Nat → Nat) : Nat → Nat
  | 0 => 0
  | k + 1 => if f k < f (bst f k) then k else bst f k
theorem bst_le (f : Nat → Nat) : ∀ k, bst f k ≤ k ∧ (0 < k → bst f k < k)
  | 0 => ⟨Nat.le_refl _, fun h => absurd h (by omega)⟩
  | k + 1 => by
    have := bst_le f k
    unfold bst
    split <;> omega
theorem bst_min (f : Nat → Nat) : ∀ k j, j < k → f (bst f k) ≤ f j ∧ (f j = f (bst f k) → bst f k ≤ j)
  | 0, j, h => absurd h (by omega)
  | k + 1, j, h => by
    unfold bst
    by_cases hj : j = k
    · subst hj
      have := (bst_le f j).1
      split
      · exact ⟨Nat.le_refl _, fun _ => Nat.le_refl _⟩
      · exact ⟨by omega, fun _ => this⟩
    · have := bst_min f k j (by omega)
      split
      · exact ⟨by omega, fun _ => by omega⟩
      · exact this
def costF (l : List Nat) (w : Nat) : Nat := (encM w l).length
def bestM (l : List Nat) : Nat := bst (costF l) 32
def packM (l : List Nat) : List UInt8 := encM (bestM l) l
theorem bestM_lt (l : List Nat) : bestM l ≤ 31 := by have := (bst_le (costF l) 32).2 (by omega); unfold bestM; omega
theorem packM_le (l : List Nat) (w : Nat) (h : w ≤ 31) : (packM l).length ≤ (encM w l).length := (bst_min (costF l) 32 w (by omega)).1
theorem bestM_least (l : List Nat) (w : Nat) (h : w ≤ 31) (he : (encM w l).length = (packM l).length) : bestM l ≤ w := (bst_min (costF l) 32 w (by omega)).2 he
/-! ### Numbers of a block -/
/-- The error of the numbers of a block. -/
def rngC : List Int → Nat
  | [] => 0
  | x :: l => if x < 0 ∨ 2147483647 < x then 8 else rngC l
def chkV (l : List Int) : Nat := if 128 < l.length then 2 else rngC l
theorem rngC_zero : ∀ l : List Int, rngC l = 0 ↔ ∀ x ∈ l, 0 ≤ x ∧ x ≤ 2147483647
  | [] => by simp [rngC]
  | x :: l => by
    unfold rngC
    by_cases h : x < 0 ∨ 2147483647 < x
    · rw [if_pos h]
      refine ⟨fun e => absurd e (by omega), fun e => ?_⟩
      have := e x (by simp); omega
    · rw [if_neg h, rngC_zero l]
      refine ⟨fun e y hy => ?_, fun e y hy => e y (by simp [hy])⟩
      rcases List.mem_cons.1 hy with rfl | hy
      · omega
      · exact e y hy
theorem rngC_or : ∀ l : List Int, rngC l = 0 ∨ rngC l = 8
  | [] => .inl rfl
  | x :: l => by
    unfold rngC
    split
    · exact .inr rfl
    · exact rngC_or l
theorem chkV_or (l : List Int) : chkV l = 0 ∨ chkV l = 2 ∨ chkV l = 8 := by
  unfold chkV
  split
  · exact .inr (.inl rfl)
  · rcases rngC_or l with h | h
    · exact .inl h
    · exact .inr (.inr h)
/-- Numbers that may be a block. -/
def okV (vs : List Nat) : Prop := vs.length ≤ 128 ∧ ∀ v ∈ vs, v < 2 ^ 31
theorem chkV_zero (l : List Int) (h : chkV l = 0) : ∃ vs : List Nat, l = vs.map Int.ofNat ∧ okV vs := by
  unfold chkV at h
  by_cases hl : 128 < l.length
  · rw [if_pos hl] at h; cases h
  rw [if_neg hl] at h
  have hr := (rngC_zero l).1 h
  refine ⟨l.map Int.toNat, ?_, by simpa using hl, ?_⟩
  · rw [List.map_map]
    conv => lhs; rw [← List.map_id l]
    refine List.map_congr_left fun x hx => ?_
    have := hr x hx
    simp only [id, Function.comp]
    exact (Int.toNat_of_nonneg this.1).symm
  · intro v hv
    obtain ⟨x, hx, rfl⟩ := List.mem_map.1 hv
    have := hr x hx
    omega
theorem chkV_ok (vs : List Nat) (h : okV vs) : chkV (vs.map Int.ofNat) = 0 := by
  unfold chkV
  rw [if_neg (by rw [List.length_map]; have := h.1; omega)]
  refine (rngC_zero _).2 fun x hx => ?_
  obtain ⟨v, hv, rfl⟩ := List.mem_map.1 hx
  have := h.2 v hv
  show 0 ≤ (v : Int) ∧ (v : Int) ≤ _
  omega
/-! ### Bounds -/
theorem exB_length (w : Nat) : ∀ (l : List Nat) (d : Nat), d + l.length ≤ 129 → (∀ v ∈ l, v < 2 ^ 31) → (exB w d l).length ≤ 7 * exN w l
  | [], d, _, _ => by simp [exB]
  | x :: l, d, h, hv => by
    simp only [List.length_cons] at h
    by_cases hx : x / 2 ^ w = 0
    · simp only [exB, exN, if_pos hx]
      exact exB_length w l (d + 1) (by omega) fun v h => hv v (by simp [h])
    · simp only [exB, exN, if_neg hx, List.length_append]
      have h1 := exB_length w l 1 (by omega) fun v h => hv v (by simp [h])
      have h2 := uv_two d (by omega)
      have h3 := uv_five (x / 2 ^ w) (Nat.lt_of_le_of_lt (Nat.div_le_self _ _) (hv x (by simp)))
      omega
theorem exN_zero (w : Nat) : ∀ l : List Nat, (∀ v ∈ l, v / 2 ^ w = 0) → exN w l = 0
  | [], _ => rfl
  | x :: l, h => by
    simp only [exN]
    rw [if_pos (h x (by simp)), exN_zero w l fun v hv => h v (by simp [hv])]
theorem exN_set (w : Nat) (x : Nat) : ∀ (l : List Nat) (i : Nat), exN w (l.set i x) ≤ exN w l + 1
  | [], i => by simp [exN]
  | y :: l, 0 => by simp only [List.set, exN]; split <;> split <;> omega
  | y :: l, i + 1 => by
    have := exN_set w x l i
    simp only [List.set, exN]; split <;> omega
theorem bound_small (w : Nat) (l : List Nat) (hw : w ≤ 31) (hl : l.length ≤ 128) (h : ∀ v ∈ l, v / 2 ^ w = 0) :
    (packM l).length ≤ 3 + nby (l.length * w) + if l.length = 128 then 1 else 0 := by
  refine Nat.le_trans (packM_le l w hw) ?_
  have h0 := exN_zero w l h
  have h1 : (exB w 1 l).length = 0 := by
    have : ∀ (l : List Nat) (d : Nat), (∀ v ∈ l, v / 2 ^ w = 0) → exB w d l = [] := by
      intro l
      induction l with
      | nil => intro d _; rfl
      | cons x l ih => intro d h; simp only [exB]; rw [if_pos (h x (by simp))]; exact ih _ fun v hv => h v (by simp [hv])
    rw [this l 1 h]; rfl
  rw [encM_length, h0, h1, uv_one w (by omega), uv_one 0 (by omega)]
  split
  · have := uv_two l.length (by omega); omega
  · have := uv_one l.length (by omega); omega
theorem bound_one (w : Nat) (l : List Nat) (i x : Nat) (hw : w ≤ 31) (hl : l.length ≤ 128) (h : ∀ v ∈ l, v / 2 ^ w = 0) (hb : ∀ v ∈ l, v < 2 ^ 31) (hx : x < 2 ^ 31) :
    (packM (l.set i x)).length ≤ 3 + nby (l.length * w) + (if l.length = 128 then 1 else 0) + 7 := by
  refine Nat.le_trans (packM_le _ w hw) ?_
  have h0 := exN_zero w l h
  have h1 := exN_set w x l i
  have h2 : ∀ v ∈ l.set i x, v < 2 ^ 31 := fun v hv => by
    rcases List.mem_or_eq_of_mem_set hv with h | rfl
    · exact hb v h
    · exact hx
  have h3 := exB_length w (l.set i x) 1 (by rw [List.length_set]; omega) h2
  rw [encM_length, List.length_set, uv_one w (by omega), uv_one (exN w (l.set i x)) (by omega)]
  split
  · have := uv_two l.length (by omega); omega
  · have := uv_one l.length (by omega); omega
end Go.Proofs.Ytchcaidcohgjbaa
