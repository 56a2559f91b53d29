/- The plain law of ascending lists: lists of numbers alone. -/
import Derived.Test.YtbicpnhgokngeaaBase
namespace Go.Proofs.Ytbicpnhgokngeaa
set_option linter.unusedVariables false

def asc (l : List Int) : Prop := l.Pairwise (· < ·)
theorem asc_nil : asc [] := List.Pairwise.nil
theorem asc_cons {x : Int} {l : List Int} : asc (x :: l) ↔ (∀ y ∈ l, x < y) ∧ asc l := List.pairwise_cons
theorem asc_app {a b : List Int} : asc (a ++ b) ↔ asc a ∧ asc b ∧ ∀ x ∈ a, ∀ y ∈ b, x < y := List.pairwise_append
theorem asc_filter {l : List Int} (h : asc l) (p : Int → Bool) : asc (l.filter p) := List.Pairwise.sublist (List.filter_sublist) h
/-- Two ascending lists of the same elements are one. -/
theorem asc_ext : ∀ {a b : List Int}, asc a → asc b → (∀ x, x ∈ a ↔ x ∈ b) → a = b
  | [], [], _, _, _ => rfl
  | [], y :: b, _, _, h => absurd ((h y).2 (by simp)) (by simp)
  | x :: a, [], _, _, h => absurd ((h x).1 (by simp)) (by simp)
  | x :: a, y :: b, ha, hb, h => by
    obtain ⟨h1, h2⟩ := asc_cons.1 ha
    obtain ⟨h3, h4⟩ := asc_cons.1 hb
    have e : x = y := by
      rcases List.mem_cons.1 ((h x).1 (by simp)) with e | e
      · exact e
      · have h5 := h3 x e
        rcases List.mem_cons.1 ((h y).2 (by simp)) with e | e
        · exact e.symm
        · have := h1 y e; omega
    subst e
    rw [asc_ext h2 h4 fun z => ?_]
    constructor
    · intro hz
      rcases List.mem_cons.1 ((h z).1 (by simp [hz])) with e | e
      · subst e; have := h1 z hz; omega
      · exact e
    · intro hz
      rcases List.mem_cons.1 ((h z).2 (by simp [hz])) with e | e
      · subst e; have := h3 z hz; omega
      · exact e
def geP (p : Option Int) (x : Int) : Bool := match p with | none => false | some y => decide (x ≤ y)
/-- The reason why a list is not valid: 2, 8, 6, or none. -/
def chkS : Option Int → List Int → Nat
  | _, [] => 0
  | p, x :: l => if x < 0 ∨ 2147483647 < x then 8 else if geP p x = true then 6 else chkS (some x) l
def chkL (l : List Int) : Nat := if 4096 < l.length then 2 else chkS none l
def inR (x : Int) : Prop := 0 ≤ x ∧ x ≤ 2147483647
theorem chkS_zero : ∀ (l : List Int) (p : Option Int), chkS p l = 0 ↔ (∀ x ∈ l, inR x) ∧ asc l ∧ ∀ y, p = some y → ∀ x ∈ l, y < x
  | [], p => by simp [chkS, asc_nil]
  | x :: l, p => by
    unfold chkS
    by_cases h1 : x < 0 ∨ 2147483647 < x
    · rw [if_pos h1]
      constructor
      · intro h; cases h
      · rintro ⟨h, _⟩
        have := h x (by simp)
        unfold inR at this; omega
    rw [if_neg h1]
    have hx : inR x := ⟨by omega, by omega⟩
    by_cases h2 : geP p x = true
    · rw [if_pos h2]
      constructor
      · intro h; cases h
      · rintro ⟨_, _, h⟩
        cases p with
        | none => cases h2
        | some y => have := h y rfl x (by simp); simp [geP] at h2; omega
    · rw [if_neg h2, chkS_zero l (some x)]
      constructor
      · rintro ⟨h3, h4, h5⟩
        refine ⟨fun y hy => ?_, asc_cons.2 ⟨fun y hy => h5 x rfl y hy, h4⟩, fun y hy z hz => ?_⟩
        · rcases List.mem_cons.1 hy with rfl | hy
          · exact hx
          · exact h3 y hy
        · subst hy
          simp [geP] at h2
          rcases List.mem_cons.1 hz with rfl | hz
          · omega
          · have := h5 x rfl z hz; omega
      · rintro ⟨h3, h4, h5⟩
        obtain ⟨h6, h7⟩ := asc_cons.1 h4
        exact ⟨fun y hy => h3 y (by simp [hy]), h7, fun y hy => by injection hy with hy; subst hy; exact h6⟩
theorem chkL_zero (l : List Int) : chkL l = 0 ↔ l.length ≤ 4096 ∧ (∀ x ∈ l, inR x) ∧ asc l := by
  unfold chkL
  by_cases h : 4096 < l.length
  · rw [if_pos h]
    constructor
    · intro h; cases h
    · rintro ⟨h2, _⟩; omega
  · rw [if_neg h, chkS_zero]
    constructor
    · rintro ⟨h1, h2, _⟩; exact ⟨by omega, h1, h2⟩
    · rintro ⟨_, h1, h2⟩; exact ⟨h1, h2, fun y h => by cases h⟩
/-- The error of the first list that is not valid. -/
def chkA : List (List Int) → Nat
  | [] => 0
  | l :: ls => if chkL l = 0 then chkA ls else chkL l
theorem chkA_zero (ls : List (List Int)) : chkA ls = 0 ↔ ∀ l ∈ ls, chkL l = 0 := by
  induction ls with
  | nil => simp [chkA]
  | cons l ls ih =>
    unfold chkA
    by_cases h : chkL l = 0
    · rw [if_pos h, ih]; simp [h]
    · rw [if_neg h]; simp [h]
/-- The union of two ascending lists. -/
def uni : List Int → List Int → List Int
  | [], b => b
  | x :: a, [] => x :: a
  | x :: a, y :: b => if x < y then x :: uni a (y :: b) else if y < x then y :: uni (x :: a) b else x :: uni a b
termination_by a b => a.length + b.length
theorem uni_nil (a : List Int) : uni a [] = a := by cases a <;> simp [uni]
theorem uni_lt {x y : Int} (h : x < y) (a b : List Int) : uni (x :: a) (y :: b) = x :: uni a (y :: b) := by rw [uni, if_pos h]
theorem uni_gt {x y : Int} (h : y < x) (a b : List Int) : uni (x :: a) (y :: b) = y :: uni (x :: a) b := by rw [uni, if_neg (by omega), if_pos h]
theorem uni_eq (x : Int) (a b : List Int) : uni (x :: a) (x :: b) = x :: uni a b := by rw [uni, if_neg (by omega), if_neg (by omega)]
theorem mem_uni (z : Int) : ∀ (a b : List Int), z ∈ uni a b ↔ z ∈ a ∨ z ∈ b
  | [], b => by simp [uni]
  | x :: a, [] => by simp [uni]
  | x :: a, y :: b => by
    rcases Int.lt_trichotomy x y with h | h | h
    · rw [uni_lt h, List.mem_cons, mem_uni z a (y :: b)]; simp [or_assoc]
    · subst h; rw [uni_eq, List.mem_cons, mem_uni z a b]
      constructor
      · rintro (h | h | h) <;> simp [h]
      · intro h; simp at h; rcases h with (h | h) | h | h <;> simp [h]
    · rw [uni_gt h, List.mem_cons, mem_uni z (x :: a) b]
      constructor
      · rintro (h | h | h) <;> simp_all
      · intro h; simp at h ⊢; rcases h with (h | h) | h | h <;> simp [h]
termination_by a b => a.length + b.length
theorem asc_uni : ∀ (a b : List Int), asc a → asc b → asc (uni a b)
  | [], b, _, hb => by simpa [uni] using hb
  | x :: a, [], ha, _ => by simpa [uni] using ha
  | x :: a, y :: b, ha, hb => by
    obtain ⟨h1, h2⟩ := asc_cons.1 ha
    obtain ⟨h3, h4⟩ := asc_cons.1 hb
    rcases Int.lt_trichotomy x y with h | h | h
    · rw [uni_lt h]
      refine asc_cons.2 ⟨fun z hz => ?_, asc_uni a (y :: b) h2 hb⟩
      rcases (mem_uni z _ _).1 hz with hz | hz
      · exact h1 z hz
      · rcases List.mem_cons.1 hz with rfl | hz
        · exact h
        · have := h3 z hz; omega
    · subst h
      rw [uni_eq]
      refine asc_cons.2 ⟨fun z hz => ?_, asc_uni a b h2 h4⟩
      rcases (mem_uni z _ _).1 hz with hz | hz
      · exact h1 z hz
      · exact h3 z hz
    · rw [uni_gt h]
      refine asc_cons.2 ⟨fun z hz => ?_, asc_uni (x :: a) b ha h4⟩
      rcases (mem_uni z _ _).1 hz with hz | hz
      · rcases List.mem_cons.1 hz with rfl | hz
        · exact h
        · have := h1 z hz; omega
      · exact h3 z hz
termination_by a b => a.length + b.length
theorem uni_len : ∀ (a b : List Int), (uni a b).length ≤ a.length + b.length
  | [], b => by simp [uni]
  | x :: a, [] => by simp [uni]
  | x :: a, y :: b => by
    rcases Int.lt_trichotomy x y with h | h | h
    · rw [uni_lt h]; have := uni_len a (y :: b); simp at *; omega
    · subst h; rw [uni_eq]; have := uni_len a b; simp at *; omega
    · rw [uni_gt h]; have := uni_len (x :: a) b; simp at *; omega
termination_by a b => a.length + b.length
/-- The elements that another list has, and those that it has not. -/
def both (a b : List Int) : List Int := a.filter fun x => decide (x ∈ b)
def less (a b : List Int) : List Int := a.filter fun x => !decide (x ∈ b)
/-- How many elements of an ascending list are less than x. -/
def below (b : List Int) (x : Int) : Nat := b.countP fun y => !decide (x ≤ y)
theorem below_le (b : List Int) (x : Int) : below b x ≤ b.length := List.countP_le_length
theorem below_drop : ∀ (b : List Int) (x : Int), asc b → b.drop (below b x) = b.filter fun y => decide (x ≤ y)
  | [], x, _ => rfl
  | y :: b, x, h => by
    obtain ⟨h1, h2⟩ := asc_cons.1 h
    by_cases hx : x ≤ y
    · have h3 : below (y :: b) x = 0 := by
        unfold below
        rw [List.countP_eq_zero]
        intro z hz
        rcases List.mem_cons.1 hz with rfl | hz
        · simpa using hx
        · have := h1 z hz; simp; omega
      rw [h3, List.drop_zero]
      symm
      rw [List.filter_eq_self]
      intro z hz
      rcases List.mem_cons.1 hz with rfl | hz
      · simpa using hx
      · have := h1 z hz; simp; omega
    · have h3 : below (y :: b) x = below b x + 1 := by
        unfold below
        rw [List.countP_cons_of_pos (by simpa using hx)]
      rw [h3, List.drop_succ_cons, below_drop b x h2, List.filter_cons_of_neg (by simpa using hx)]
theorem below_mem {b : List Int} {x : Int} (h : asc b) : x ∈ b ↔ (b.drop (below b x))[0]? = some x := by
  rw [below_drop b x h]
  have hf := asc_filter h (fun y => decide (x ≤ y))
  constructor
  · intro hx
    have hm : x ∈ b.filter fun y => decide (x ≤ y) := by simp [hx]
    cases hl : b.filter fun y => decide (x ≤ y) with
    | nil => rw [hl] at hm; cases hm
    | cons y t =>
      rw [hl] at hm hf
      have hy : y ∈ b.filter fun y => decide (x ≤ y) := by rw [hl]; simp
      simp at hy
      rcases List.mem_cons.1 hm with e | e
      · simp [e]
      · have := (asc_cons.1 hf).1 x e; omega
  · intro hx
    have := List.mem_of_getElem? hx
    simp at this
    exact this
end Go.Proofs.Ytbicpnhgokngeaa
