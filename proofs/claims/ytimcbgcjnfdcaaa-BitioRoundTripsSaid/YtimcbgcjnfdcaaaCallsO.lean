/- A slice of calls that came in, opened. -/
import Derived.Test.YtimcbgcjnfdcaaaWritesW
import Derived.Test.YtimcbgcjnfdcaaaOpen
namespace Go.Proofs.Ytimcbgcjnfdcaaa
open Go.Joins Go.ChangeShapes Go.WideShapes Go.RowKit Go.Deep
set_option linter.unusedVariables false
theorem list_of {α : Type} {Pr : Nat → α → Prop} (n : Nat) (h : ∀ i, i < n → ∃ c, Pr i c) : ∃ cs : List α, cs.length = n ∧ ∀ i c, cs[i]? = some c → Pr i c := by
  induction n with
  | zero => exact ⟨[], rfl, fun i c h => by simp at h⟩
  | succ n ih =>
    obtain ⟨cs, hl, hc⟩ := ih (fun i hi => h i (by omega))
    obtain ⟨c, hc'⟩ := h n (by omega)
    refine ⟨cs ++ [c], by simp [hl], fun i d hd => ?_⟩
    rcases Nat.lt_or_ge i n with hi | hi
    · rw [List.getElem?_append_left (by omega)] at hd
      exact hc i d hd
    · have hlt := (List.getElem?_eq_some_iff.1 hd).1
      simp [hl] at hlt
      obtain rfl : i = n := by omega
      rw [List.getElem?_append_right (by omega), hl, Nat.sub_self] at hd
      simp at hd
      subst hd
      exact hc'
theorem calls_cells (cs : List (Int × Nat × Int)) (j : Nat) (v : Value) (h : (cs.flatMap callCells)[j]? = some v) : ∃ c, cs[j / 3]? = some c ∧ (callCells c)[j % 3]? = some v := by
  induction cs generalizing j with
  | nil => simp at h
  | cons d cs ih =>
    rw [List.flatMap_cons] at h
    rcases Nat.lt_or_ge j 3 with hj | hj
    · rw [List.getElem?_append_left (by simpa [callCells] using hj)] at h
      refine ⟨d, by rw [Nat.div_eq_of_lt hj]; rfl, by rw [Nat.mod_eq_of_lt hj]; exact h⟩
    · rw [List.getElem?_append_right (by simpa [callCells] using hj)] at h
      obtain ⟨c, h1, h2⟩ := ih _ h
      have e : (callCells d).length = 3 := rfl
      rw [e] at h1 h2
      refine ⟨c, ?_, ?_⟩
      · rw [show j / 3 = (j - 3) / 3 + 1 by omega]; simpa using h1
      · rw [show j % 3 = (j - 3) % 3 by omega]; exact h2
theorem calls_open {H : Type} {enc : TypeId × Value → H} {w : World} {base : Nat} {spare : Nat → Bool} {held : Bool} {fuel : Nat} {a : Option Addr} {len cap : Nat} {x : DataW H × List MemPlace}
    (h : DataW.trod enc Try.prog w base spare held fuel 41 [.slice a len cap] = some x) : ∃ cs, IsCalls w a len cs := by
  rcases open_slice_fields Try.underlying41 Try.underlying44 (by kernel_rfl) (by kernel_rfl) h with ⟨hcs, _⟩ | ⟨ad, l, c, m, D, Pl, hcs, _, hl, hm, hmm, hx, hi⟩
  · simp at hcs
    obtain ⟨rfl, rfl, rfl⟩ := hcs
    exact ⟨[], rfl, by simp, .inl rfl⟩
  · simp at hcs
    obtain ⟨rfl, rfl, rfl⟩ := hcs
    have hlm : len ≤ m := by rw [hmm]; split <;> omega
    obtain ⟨cs, hlen, hc⟩ := list_of (α := Int × Nat × Int) (Pr := fun i c => c.2.1 < 2 ^ 64 ∧ ∀ j v, (callCells c)[j]? = some v → w.cell? (ad.add (i * 3 + j)) = some v) len (fun i hilt => by
      obtain ⟨ys, n, _, _, hyl, hf⟩ := hi i (by omega)
      obtain ⟨v0, y0, g0, _, e0⟩ := hf 0 _ rfl
      obtain ⟨v1, y1, g1, _, e1⟩ := hf 1 _ rfl
      obtain ⟨v2, y2, g2, _, e2⟩ := hf 2 _ rfl
      obtain ⟨n0, q0, _, b0⟩ := DataW.trod_int Try.underlying3 e0
      obtain ⟨n1, q1, _, b1⟩ := DataW.trod_int Try.underlying23 e1
      obtain ⟨n2, q2, _, b2⟩ := DataW.trod_int Try.underlying3 e2
      obtain rfl : v0 = .int .i64 n0 := by simpa using q0
      obtain rfl : v1 = .int .u64 n1 := by simpa using q1
      obtain rfl : v2 = .int .i64 n2 := by simpa using q2
      have hb := bounds_u64 b1
      obtain ⟨k1, rfl⟩ := Int.eq_ofNat_of_zero_le hb.1
      refine ⟨(n0, k1, n2), by show k1 < 2 ^ 64; omega, fun j v hv => ?_⟩
      match j, hv with
      | 0, hv => simp [callCells] at hv; subst hv; exact g0
      | 1, hv => simp [callCells] at hv; subst hv; exact g1
      | 2, hv => simp [callCells] at hv; subst hv; exact g2
      | j + 3, hv => simp [callCells] at hv)
    refine ⟨cs, hlen, fun c hcm => ?_, ?_⟩
    · obtain ⟨i, he⟩ := List.mem_iff_getElem?.1 hcm
      exact (hc i c he).1
    · by_cases h0 : len = 0
      · left
        have : cs = [] := List.eq_nil_of_length_eq_zero (by omega)
        rw [this]; rfl
      · right
        have hcell : ∀ k v, (cs.flatMap callCells)[k]? = some v → w.cell? (ad.add k) = some v := fun k v hv => by
          obtain ⟨c, h1, h2⟩ := calls_cells cs k v hv
          have := (hc _ c h1).2 _ v h2
          rwa [show k / 3 * 3 + k % 3 = k by omega] at this
        have hc0 : cs[0]? = some (cs[0]'(by omega)) := List.getElem?_eq_getElem _
        have hx0 := (hc 0 _ hc0).2 0 _ rfl
        have hsp : ad.spot = none := by simpa [Addr.add] using World.cell?_spot hx0
        obtain ⟨b, o, sp⟩ := ad
        subst hsp
        refine ⟨b, o, rfl, lt_heap (a := (⟨b, o, none⟩ : Addr).add (0 * 3 + 0)) hx0, fun k v hv => ?_⟩
        have h1 := hcell k v hv
        rw [Addr.add_lit] at h1
        exact h1
end Go.Proofs.Ytimcbgcjnfdcaaa
