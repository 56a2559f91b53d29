/- Plain facts for the law TopHeads: the meeting place of two ways up is the lowest common ancestor. -/
import Derived.Test.YtbpkclopcoaikaaGreatDoorXAm
namespace Go.Proofs.YtbpkclopcoaikaaGreatDoor
set_option linter.unusedVariables false
set_option linter.unusedSimpArgs false
section
variable {p : List Int} {r : Nat → Nat}
theorem mem_wayU (hF : Forest p r) {k i : Nat} (hi : i < p.length) : k ∈ wayU p r i ↔ AncS p k i := by
  constructor
  · intro h
    obtain ⟨t, ht⟩ := List.mem_iff_getElem?.1 h
    exact (wayU_at hF t i k hi ht).1
  · intro h
    exact List.mem_of_getElem? (wayU_mem hF hi h).1
/-- The first of the way from a that is on the way from b. -/
theorem lca_found (hF : Forest p r) {a b t x : Nat} (ha : a < p.length) (hb : b < p.length) (hx : (wayU p r a)[t]? = some x) (hn : ∀ t', t' < t → ∀ y, (wayU p r a)[t']? = some y → y ∉ wayU p r b) (hm : x ∈ wayU p r b) : Lca p a b (x : Int) := by
  obtain ⟨h1, h2, h3⟩ := wayU_at hF t a x ha hx
  refine .inr ⟨x, rfl, h1, (mem_wayU hF hb).1 hm, fun k hk hk' => ?_⟩
  obtain ⟨h4, h5⟩ := wayU_mem hF ha hk
  have h6 : t ≤ r a - r k := by
    rcases Nat.lt_or_ge (r a - r k) t with h | h
    · exact absurd ((mem_wayU hF hb).2 hk') (hn _ h k h4)
    · exact h
  rcases hk with rfl | hk
  · rcases h1 with rfl | h1
    · exact .inl rfl
    · have := h1.rank hF; omega
  · rcases h1 with rfl | h1
    · exact .inr hk
    · rcases hk.chain h1 with h7 | h7 | h7
      · exact .inl h7
      · exact .inr h7
      · have := h7.rank hF; omega
theorem lca_none (hF : Forest p r) {a b : Nat} (ha : a < p.length) (hb : b < p.length) (hn : ∀ y ∈ wayU p r a, y ∉ wayU p r b) : Lca p a b (-1) :=
  .inl ⟨rfl, fun k hk hk' => hn k ((mem_wayU hF ha).2 hk) ((mem_wayU hF hb).2 hk')⟩
/-- The meeting place stands on both ways, at its depth; what is before it on the way from a is not on the way from b, and the other way round. -/
theorem lca_at (hF : Forest p r) {a b x : Nat} (ha : a < p.length) (hb : b < p.length) (h : Lca p a b (x : Int)) : (wayU p r a)[r a - r x]? = some x ∧ (wayU p r b)[r b - r x]? = some x ∧ r x ≤ r a ∧ r x ≤ r b := by
  rcases h with ⟨h, _⟩ | ⟨y, h, h1, h2, _⟩
  · omega
  · obtain rfl : x = y := by omega
    obtain ⟨h3, h4⟩ := wayU_mem hF ha h1
    obtain ⟨h5, h6⟩ := wayU_mem hF hb h2
    exact ⟨h3, h5, h4, h6⟩
theorem lca_first (hF : Forest p r) {a b x t y : Nat} (ha : a < p.length) (hb : b < p.length) (h : Lca p a b (x : Int)) (ht : (wayU p r a)[t]? = some y) (hy : y ∈ wayU p r b) : r a - r x ≤ t := by
  obtain ⟨h1, h2, h3⟩ := wayU_at hF t a y ha ht
  have h4 := (mem_wayU hF hb).1 hy
  rcases h with ⟨h, _⟩ | ⟨z, h, k1, k2, k3⟩
  · omega
  · obtain rfl : x = z := by omega
    rcases k3 y h1 h4 with rfl | h5
    · omega
    · have := h5.rank hF; omega
end
end Go.Proofs.YtbpkclopcoaikaaGreatDoor
