/- The plain law of the intersection by seeking in turn. -/
import Derived.Test.YtbicpnhgokngeaaQSkW
import Derived.Test.YtbicpnhgokngeaaLOpsW
namespace Go.Proofs.Ytbicpnhgokngeaa
set_option linter.unusedVariables false
theorem okQ_of {z : List Int} (h : chkL z = 0) : okQ (natsOf z) := by
  obtain ⟨_, h2, h3⟩ := (chkL_zero z).1 h
  unfold natsOf
  refine ⟨?_, fun x hx => ?_⟩
  · rw [List.pairwise_map]
    refine List.Pairwise.imp_of_mem (fun {a b} ha hb hab => ?_) h3
    have := (h2 a ha).1
    have := (h2 b hb).1
    omega
  · obtain ⟨y, hy, rfl⟩ := List.mem_map.1 hx
    have := h2 y hy
    have h4 := this.1
    have h5 := this.2
    omega
theorem natsOf_length (z : List Int) : (natsOf z).length = z.length := by simp [natsOf]
theorem natsOf_at {z : List Int} (h : chkL z = 0) {i : Nat} {x : Int} (hx : z[i]? = some x) : ∃ y : Nat, x = y ∧ (natsOf z)[i]? = some y := by
  obtain ⟨_, h2, _⟩ := (chkL_zero z).1 h
  have := (h2 x (List.mem_of_getElem? hx)).1
  exact ⟨x.toNat, by omega, by unfold natsOf; rw [List.getElem?_map, hx]; rfl⟩
theorem natsOf_back {z : List Int} (h : chkL z = 0) {i y : Nat} (hy : (natsOf z)[i]? = some y) : z[i]? = some (y : Int) := by
  have hl := (List.getElem?_eq_some_iff.1 hy).1
  rw [natsOf_length] at hl
  obtain ⟨x, hx⟩ : ∃ x, z[i]? = some x := ⟨_, List.getElem?_eq_getElem hl⟩
  obtain ⟨y', rfl, h'⟩ := natsOf_at h hx
  rw [hy] at h'
  injection h' with h'
  rw [hx, h']
theorem rank_lt {l : List Nat} {p : Int} {j x : Nat} (hj : j < rankQ l p) (hx : l[j]? = some x) : (x : Int) < p := by
  have := List.not_of_lt_findIdx hj
  obtain ⟨hl, rfl⟩ := List.getElem?_eq_some_iff.1 hx
  simp at this
  omega
theorem rank_at {l : List Nat} {p : Int} {x : Nat} (hx : l[rankQ l p]? = some x) : p ≤ (x : Int) := by
  obtain ⟨hl, rfl⟩ := List.getElem?_eq_some_iff.1 hx
  have := List.findIdx_getElem (w := hl)
  simp only [decide_eq_true_eq] at this
  exact this
theorem rank_ge {l : List Nat} (h : okQ l) {p : Int} {j x : Nat} (hj : rankQ l p ≤ j) (hx : l[j]? = some x) : p ≤ (x : Int) := by
  have hl := (List.getElem?_eq_some_iff.1 hx).1
  obtain ⟨y, hy⟩ : ∃ y, l[rankQ l p]? = some y := ⟨_, List.getElem?_eq_getElem (by omega)⟩
  have h1 := rank_at hy
  by_cases he : rankQ l p = j
  · rw [he, hx] at hy; injection hy with hy; omega
  · have := okQ_lt h hy hx (by omega)
    omega
theorem rank_gt {l : List Nat} (h : okQ l) {p : Int} {j x : Nat} (hx : l[j]? = some x) (hp : (x : Int) < p) : j < rankQ l p := by
  rcases Nat.lt_or_ge j (rankQ l p) with h1 | h1
  · exact h1
  · have := rank_ge h h1 hx
    omega
theorem rank_mono {l : List Nat} (h : okQ l) {p q : Int} (hpq : p ≤ q) : rankQ l p ≤ rankQ l q := by
  rcases Nat.lt_or_ge (rankQ l q) (rankQ l p) with h1 | h1
  · obtain ⟨y, hy⟩ : ∃ y, l[rankQ l q]? = some y := ⟨_, List.getElem?_eq_getElem (by have := rankQ_le l p; omega)⟩
    have h2 := rank_at hy
    have h3 := rank_lt h1 hy
    omega
  · exact h1
theorem both_skip (la lb : List Int) : ∀ (d k : Nat), (∀ j x, k ≤ j → j < k + d → la[j]? = some x → ¬ x ∈ lb) → both (la.take (k + d)) lb = both (la.take k) lb
  | 0, k, h => rfl
  | d + 1, k, h => by
    rw [← both_skip la lb d k (fun j x h1 h2 => h j x h1 (by omega))]
    by_cases hl : k + d < la.length
    · have hx : la[k + d]? = some la[k + d] := List.getElem?_eq_getElem hl
      exact both_no hx (h (k + d) _ (by omega) (by omega) hx)
    · rw [List.take_of_length_le (by omega), List.take_of_length_le (by omega)]
/-- What was found when all positions less than t were passed. -/
def fndM (la lb : List Int) (t : Int) : List Int := both (la.take (rankQ (natsOf la) t)) lb
theorem mem_nat {z : List Int} (h : chkL z = 0) {x : Int} (hx : x ∈ z) : ∃ (j y : Nat), x = y ∧ z[j]? = some x ∧ (natsOf z)[j]? = some y := by
  obtain ⟨j, hj, rfl⟩ := List.mem_iff_getElem.1 hx
  have hx' : z[j]? = some z[j] := List.getElem?_eq_getElem hj
  obtain ⟨y, h1, h2⟩ := natsOf_at h hx'
  exact ⟨j, y, h1, hx', h2⟩
theorem fnd_same {la lb : List Int} (ha : chkL la = 0) (hb : chkL lb = 0) {t : Int} {p q : Nat} (hp : (natsOf la)[rankQ (natsOf la) t]? = some p) (hq : (natsOf lb)[rankQ (natsOf lb) (p : Int)]? = some q) (he : p = q) :
    fndM la lb ((q : Int) + 1) = fndM la lb t ++ [(p : Int)] ∧ rankQ (natsOf la) t + 1 ≤ rankQ (natsOf la) ((q : Int) + 1) ∧ rankQ (natsOf lb) t ≤ rankQ (natsOf lb) ((q : Int) + 1) := by
  subst he
  have oa := okQ_of ha
  have ob := okQ_of hb
  have htp := rank_at hp
  have h1 : rankQ (natsOf la) ((p : Int) + 1) = rankQ (natsOf la) t + 1 := by
    apply rankQ_eq
    · intro j x hj hx
      by_cases hjk : j = rankQ (natsOf la) t
      · rw [hjk, hp] at hx; injection hx with hx; omega
      · have := rank_lt (show j < rankQ (natsOf la) t by omega) hx
        omega
    · by_cases hl : rankQ (natsOf la) t + 1 = (natsOf la).length
      · exact .inl hl
      · have := (List.getElem?_eq_some_iff.1 hp).1
        obtain ⟨y, hy⟩ : ∃ y, (natsOf la)[rankQ (natsOf la) t + 1]? = some y := ⟨_, List.getElem?_eq_getElem (by omega)⟩
        have := okQ_lt oa hp hy (by omega)
        exact .inr ⟨y, hy, by omega⟩
  refine ⟨?_, by omega, rank_mono ob (by omega)⟩
  unfold fndM
  rw [h1]
  exact both_yes (natsOf_back ha hp) (List.mem_of_getElem? (natsOf_back hb hq))
theorem fnd_skip {la lb : List Int} (ha : chkL la = 0) (hb : chkL lb = 0) {t : Int} {p q : Nat} (hp : (natsOf la)[rankQ (natsOf la) t]? = some p) (hq : (natsOf lb)[rankQ (natsOf lb) (p : Int)]? = some q) (he : p ≠ q) :
    fndM la lb (q : Int) = fndM la lb t ∧ rankQ (natsOf la) t + 1 ≤ rankQ (natsOf la) (q : Int) ∧ rankQ (natsOf lb) t ≤ rankQ (natsOf lb) (q : Int) := by
  have oa := okQ_of ha
  have ob := okQ_of hb
  have htp := rank_at hp
  have hpq := rank_at hq
  have h1 : rankQ (natsOf la) t < rankQ (natsOf la) (q : Int) := rank_gt oa hp (by omega)
  refine ⟨?_, h1, rank_mono ob (by omega)⟩
  unfold fndM
  have h2 := both_skip la lb (rankQ (natsOf la) (q : Int) - rankQ (natsOf la) t) (rankQ (natsOf la) t) (fun j x hj1 hj2 hx hm => by
    obtain ⟨i, y, rfl, hi, hiy⟩ := mem_nat hb hm
    obtain ⟨y', e, hj⟩ := natsOf_at ha hx
    obtain rfl : y = y' := by omega
    have h3 := rank_lt (show j < rankQ (natsOf la) (q : Int) by omega) hj
    have h4 : p ≤ y := by
      by_cases hjk : j = rankQ (natsOf la) t
      · rw [hjk, hp] at hj; injection hj with hj; omega
      · have := okQ_lt oa hp hj (by omega); omega
    have h5 : (p : Int) ≤ (y : Int) := by omega
    rcases Nat.lt_or_ge i (rankQ (natsOf lb) (p : Int)) with h6 | h6
    · have := rank_lt h6 hiy; omega
    · by_cases hik : i = rankQ (natsOf lb) (p : Int)
      · rw [hik, hq] at hiy; injection hiy with hiy; omega
      · have := okQ_lt ob hq hiy (by omega); omega)
  rwa [show rankQ (natsOf la) t + (rankQ (natsOf la) (q : Int) - rankQ (natsOf la) t) = rankQ (natsOf la) (q : Int) by omega] at h2
theorem fnd_end {la lb : List Int} (ha : chkL la = 0) (hb : chkL lb = 0) {t : Int} (h : rankQ (natsOf la) t = (natsOf la).length ∨ ∃ p : Nat, (natsOf la)[rankQ (natsOf la) t]? = some p ∧ rankQ (natsOf lb) (p : Int) = (natsOf lb).length) : fndM la lb t = both la lb := by
  have oa := okQ_of ha
  have ob := okQ_of hb
  unfold fndM
  rcases h with h | ⟨p, hp, h⟩
  · rw [h, natsOf_length, List.take_length]
  · have hr := rankQ_le (natsOf la) t
    rw [natsOf_length] at hr
    have h2 := both_skip la lb (la.length - rankQ (natsOf la) t) (rankQ (natsOf la) t) (fun j x hj1 hj2 hx hm => by
      obtain ⟨i, y, rfl, hi, hiy⟩ := mem_nat hb hm
      obtain ⟨y', e, hj⟩ := natsOf_at ha hx
      obtain rfl : y = y' := by omega
      have h4 : p ≤ y := by
        by_cases hjk : j = rankQ (natsOf la) t
        · rw [hjk, hp] at hj; injection hj with hj; omega
        · have := okQ_lt oa hp hj (by omega); omega
      have h6 : i < rankQ (natsOf lb) (p : Int) := by rw [h]; exact (List.getElem?_eq_some_iff.1 hiy).1
      have := rank_lt h6 hiy
      omega)
    rw [← h2, show rankQ (natsOf la) t + (la.length - rankQ (natsOf la) t) = la.length by omega, List.take_length]
theorem fnd_zero (la lb : List Int) (ha : chkL la = 0) : fndM la lb 0 = [] := by
  have h : rankQ (natsOf la) 0 = 0 := by
    apply rankQ_eq
    · intro j x hj; exact absurd hj (by omega)
    · rcases h : (natsOf la)[0]? with _ | x
      · left
        have := List.getElem?_eq_none_iff.1 h
        omega
      · exact .inr ⟨x, rfl, by omega⟩
  unfold fndM
  rw [h]
  rfl
end Go.Proofs.Ytbicpnhgokngeaa
