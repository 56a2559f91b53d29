/- Plain facts about the ways up in a forest, for the law TopHeads. -/
import Derived.Test.YtbpkclopcoaikaaGreatDoorWAm
namespace Go.Proofs.YtbpkclopcoaikaaGreatDoor
set_option linter.unusedVariables false
set_option linter.unusedSimpArgs false
/-- The way up from i, with fuel, i first. -/
def ups (p : List Int) : Nat → Nat → List Nat
  | 0, i => [i]
  | f + 1, i => i :: match p[i]? with
    | some x => if x < 0 then [] else ups p f x.toNat
    | none => []
/-- The way up from i. -/
def wayU (p : List Int) (r : Nat → Nat) (i : Nat) : List Nat := ups p (r i) i
section
variable {p : List Int} {r : Nat → Nat}
theorem wayU_root (hF : Forest p r) {i : Nat} {x : Int} (hx : p[i]? = some x) (h0 : x < 0) : wayU p r i = [i] := by
  unfold wayU
  rw [hF.root i x hx h0]
  rfl
theorem wayU_up (hF : Forest p r) {i k : Nat} (h : Par p k i) : wayU p r i = i :: wayU p r k := by
  unfold wayU
  rw [hF.step k i h]
  unfold Par at h
  rw [ups, h]
  simp only []
  rw [if_neg (by omega), Int.toNat_natCast]
theorem wayU_len (hF : Forest p r) : ∀ (n i : Nat), r i = n → i < p.length → (wayU p r i).length = r i + 1
  | 0, i, h, hi => by
    unfold wayU
    rw [h]
    rfl
  | n + 1, i, h, hi => by
    have hx := List.getElem?_eq_getElem hi
    have hr := hF.rng i _ hx
    rcases show p[i] < 0 ∨ 0 ≤ p[i] by omega with h0 | h0
    · have := hF.root i _ hx h0; omega
    · have hp : Par p p[i].toNat i := by unfold Par; rw [hx, Int.toNat_of_nonneg h0]
      have hs := hF.step _ _ hp
      rw [wayU_up hF hp, List.length_cons, wayU_len hF n _ (by omega) (hp.ltk hF)]
      omega
theorem anc_up' {p : List Int} {k i : Nat} : Anc p k i ↔ ∃ m : Nat, Par p m i ∧ AncS p k m := by
  constructor
  · intro h
    cases h with
    | one h => exact ⟨k, h, .inl rfl⟩
    | up h h' => exact ⟨_, h, .inr h'⟩
  · rintro ⟨m, h, h'⟩
    rcases h' with rfl | h'
    · exact .one h
    · exact .up h h'
/-- The t-th of the way lies t steps less deep, and is i or above it. -/
theorem wayU_at (hF : Forest p r) : ∀ (t i x : Nat), i < p.length → (wayU p r i)[t]? = some x → AncS p x i ∧ r x + t = r i ∧ x < p.length
  | 0, i, x, hi, h => by
    have hx := List.getElem?_eq_getElem hi
    have e : i = x := by
      rcases show p[i] < 0 ∨ 0 ≤ p[i] by omega with h0 | h0
      · rw [wayU_root hF hx h0] at h
        simpa using h
      · rw [wayU_up hF (show Par p p[i].toNat i by unfold Par; rw [hx, Int.toNat_of_nonneg h0])] at h
        simpa using h
    subst e
    exact ⟨.inl rfl, by omega, hi⟩
  | t + 1, i, x, hi, h => by
    have hx := List.getElem?_eq_getElem hi
    rcases show p[i] < 0 ∨ 0 ≤ p[i] by omega with h0 | h0
    · rw [wayU_root hF hx h0] at h
      simp at h
    · have hp : Par p p[i].toNat i := by unfold Par; rw [hx, Int.toNat_of_nonneg h0]
      rw [wayU_up hF hp, List.getElem?_cons_succ] at h
      obtain ⟨h1, h2, h3⟩ := wayU_at hF t _ x (hp.ltk hF) h
      have hs := hF.step _ _ hp
      refine ⟨.inr (anc_up'.2 ⟨_, hp, h1⟩), by omega, h3⟩
/-- What is i or above it stands on the way, at its depth. -/
theorem wayU_mem (hF : Forest p r) {k i : Nat} (hi : i < p.length) (h : AncS p k i) : (wayU p r i)[r i - r k]? = some k ∧ r k ≤ r i := by
  rcases h with rfl | h
  · rw [Nat.sub_self]
    have hx := List.getElem?_eq_getElem hi
    refine ⟨?_, Nat.le_refl _⟩
    rcases show p[k] < 0 ∨ 0 ≤ p[k] by omega with h0 | h0
    · rw [wayU_root hF hx h0]; rfl
    · rw [wayU_up hF (show Par p p[k].toNat k by unfold Par; rw [hx, Int.toNat_of_nonneg h0])]; rfl
  · induction h with
    | one hp =>
      have hs := hF.step _ _ hp
      rw [wayU_up hF hp, show r _ - r k = 0 + 1 by omega, List.getElem?_cons_succ]
      have hk := hp.ltk hF
      have hx := List.getElem?_eq_getElem hk
      refine ⟨?_, by omega⟩
      rcases show p[k] < 0 ∨ 0 ≤ p[k] by omega with h0 | h0
      · rw [wayU_root hF hx h0]; rfl
      · rw [wayU_up hF (show Par p p[k].toNat k by unfold Par; rw [hx, Int.toNat_of_nonneg h0])]; rfl
    | up hp _ ih =>
      rename_i j i' _
      have hs := hF.step _ _ hp
      obtain ⟨h1, h2⟩ := ih (hp.ltk hF)
      rw [wayU_up hF hp, show r i' - r k = (r j - r k) + 1 by omega, List.getElem?_cons_succ]
      exact ⟨h1, by omega⟩
/-- A forest is less deep than it has tokens. -/
theorem forest_deep (hF : Forest p r) {i : Nat} (hi : i < p.length) : r i < p.length := by
  rcases Nat.lt_or_ge (r i) p.length with h | h
  · exact h
  · exfalso
    have hl := wayU_len hF _ i rfl hi
    have hw : ∀ k, k ≤ p.length → ∃ x, (wayU p r i)[k]? = some x := fun k hk => ⟨_, List.getElem?_eq_getElem (by omega)⟩
    obtain ⟨a, b, hab, hb, he⟩ := pigeon p.length (fun k => ((wayU p r i)[k]?).getD 0) (fun k hk => by
      obtain ⟨x, hx⟩ := hw k hk
      simp only [hx, Option.getD_some]
      exact (wayU_at hF k i x hi hx).2.2)
    obtain ⟨x, hx⟩ := hw a (by omega)
    obtain ⟨y, hy⟩ := hw b hb
    simp only [hx, hy, Option.getD_some] at he
    subst he
    have h1 := (wayU_at hF a i x hi hx).2.1
    have h2 := (wayU_at hF b i x hi hy).2.1
    omega
end
end Go.Proofs.YtbpkclopcoaikaaGreatDoor
