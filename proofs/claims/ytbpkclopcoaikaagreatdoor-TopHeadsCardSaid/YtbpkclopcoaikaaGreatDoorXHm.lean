/- Plain facts for the law TopHeads: there is a meeting place; it is b where b is a or above it. -/
import Derived.Test.YtbpkclopcoaikaaGreatDoorXEm
namespace Go.Proofs.YtbpkclopcoaikaaGreatDoor
set_option linter.unusedVariables false
set_option linter.unusedSimpArgs false
section
variable {p : List Int} {r : Nat → Nat}
theorem least_of {Q : Nat → Prop} : ∀ n : Nat, Q n → ∃ m, Q m ∧ ∀ k, k < m → ¬ Q k := by
  intro n
  induction n using Nat.strongRecOn with
  | ind n ih =>
    intro h
    by_cases h' : ∃ k, k < n ∧ Q k
    · obtain ⟨k, h1, h2⟩ := h'
      exact ih k h1 h2
    · exact ⟨n, h, fun k hk hq => h' ⟨k, hk, hq⟩⟩
theorem lca_ex (hF : Forest p r) {a b : Nat} (ha : a < p.length) (hb : b < p.length) : ∃ z, Lca p a b z := by
  by_cases h : ∃ (t y : Nat), (wayU p r a)[t]? = some y ∧ y ∈ wayU p r b
  · obtain ⟨t, ht⟩ := h
    obtain ⟨m, ⟨y, h1, h2⟩, h3⟩ := least_of (Q := fun t => ∃ y, (wayU p r a)[t]? = some y ∧ y ∈ wayU p r b) t ht
    exact ⟨_, lca_found hF ha hb h1 (fun t' ht' y' hy' hm => h3 t' ht' ⟨y', hy', hm⟩) h2⟩
  · refine ⟨_, lca_none hF ha hb fun y hy hm => h ?_⟩
    obtain ⟨t, ht⟩ := List.mem_iff_getElem?.1 hy
    exact ⟨t, y, ht, hm⟩
theorem lca_anc (hF : Forest p r) {a b y : Nat} (h : Lca p a b (y : Int)) : AncS p b a ↔ y = b := by
  rcases h with ⟨h, _⟩ | ⟨x, h, h1, h2, h3⟩
  · omega
  · obtain rfl : y = x := by omega
    constructor
    · intro hb
      rcases h3 b hb (.inl rfl) with rfl | h4
      · rfl
      · rcases h2 with rfl | h5
        · rfl
        · have := h4.rank hF
          have := h5.rank hF
          omega
    · rintro rfl
      exact h1
theorem lca_lt (hF : Forest p r) {a b y : Nat} (ha : a < p.length) (hb : b < p.length) (h : Lca p a b (y : Int)) : y < p.length := (wayU_at hF _ a y ha (lca_at hF ha hb h).1).2.2
end
end Go.Proofs.YtbpkclopcoaikaaGreatDoor
