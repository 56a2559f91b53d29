/- A slice of slices of ints that came in, opened. -/
import Derived.Test.YtjiijhbkbmnhbaaLL1W
import Derived.ChangeSlices
import Derived.SliceStrings
namespace Go.Proofs.Ytjiijhbkbmnhbaa
open Go.ChangeShapes Go.WideShapes Go.RowKit
set_option linter.unusedVariables false
theorem list_of {α : Type} {Pr : Nat → α → Prop} (n : Nat) (h : ∀ i, i < n → ∃ c, Pr i c) : ∃ cs : List α, cs.length = n ∧ ∀ i c, cs[i]? = some c → Pr i c := by
  induction n with
  | zero => exact ⟨[], rfl, fun i c h => by simp at h⟩
  | succ n ih =>
    obtain ⟨cs, hl, hc⟩ := ih (fun i hi => h i (by omega))
    obtain ⟨c, hc'⟩ := h n (by omega)
    refine ⟨cs ++ [c], by simp [hl], fun i d hd => ?_⟩
    rcases Nat.lt_or_ge i n with hi | hi
    · rw [List.getElem?_append_left (by omega)] at hd
      exact hc i d hd
    · have hlt := (List.getElem?_eq_some_iff.1 hd).1
      simp [hl] at hlt
      obtain rfl : i = n := by omega
      rw [List.getElem?_append_right (by omega), hl, Nat.sub_self] at hd
      simp at hd
      subst hd
      exact hc'
theorem ints_opened {H : Type} {enc : TypeId × Value → H} {w : World} {base : Nat} {held : Bool} {fuel : Nat} {cs : List Value} {x : DataW H × List MemPlace}
    (h : DataW.trod enc Try.prog w base (fun _ => true) held fuel 22 cs = some x) : ∃ (l : List Int) (a' : Option Addr) (c : Nat), cs = [.slice a' l.length c] ∧ l.length ≤ c ∧ c ≤ maxLen ∧ Rd w a' (l.map iv) := by
  rcases open_ints Try.underlying22 Try.underlying3 (by kernel_rfl) h with ⟨rfl, _⟩ | ⟨x, l, c, zs, rfl, _, hl, hm, hz, _, hcell, hwz⟩
  · exact ⟨[], none, 0, rfl, Nat.le_refl _, Nat.zero_le _, .inl rfl⟩
  · have hrow : IsRow .i64 w (some x) l c zs := .inr ⟨_, rfl, hl, hm, by simpa using hz, hcell, hwz⟩
    obtain ⟨k, hi, h1, h2, _⟩ := hrow.ints
    exact ⟨k, some x, c, by rw [← hi.1], by rw [← hi.1]; exact h1, h2, hi.2⟩
theorem lists_open {H : Type} {enc : TypeId × Value → H} {w : World} {base : Nat} {held : Bool} {fuel : Nat} {a : Option Addr} {len cap : Nat} {x : DataW H × List MemPlace}
    (h : DataW.trod enc Try.prog w base (fun _ => true) held fuel 30 [.slice a len cap] = some x) : ∃ ls, IsLL w a len ls ∧ len ≤ maxLen := by
  have hc1 : Try.prog.cellsOf 22 = 1 := by kernel_rfl
  rcases DataW.trod_slice Try.underlying30 h with ⟨hcs, _⟩ | ⟨ad, l, c, elems, rest, n, _, hcs, _, hb, hl, hm, hlen, hel, _, _⟩
  · simp at hcs
    obtain ⟨rfl, rfl, rfl⟩ := hcs
    exact ⟨[], ⟨rfl, [], .inl rfl, rfl, fun i l h => by simp at h⟩, Nat.zero_le _⟩
  · simp at hcs
    obtain ⟨rfl, rfl, rfl⟩ := hcs
    obtain ⟨cs, hcl, hc⟩ := list_of (α := List Int × Option Addr × Nat) (Pr := fun i c => w.cell? (ad.add i) = some (.slice c.2.1 c.1.length c.2.2) ∧ c.1.length ≤ c.2.2 ∧ c.2.2 ≤ maxLen ∧ Rd w c.2.1 (c.1.map iv)) len (fun i hilt => by
      have h1 := hel i hilt
      rw [hc1, Nat.mul_one] at h1
      have h2 : elems[i]? = some (elems[i]'(by omega)) := List.getElem?_eq_getElem _
      rw [h2, Option.bind_eq_some_iff] at h1
      obtain ⟨cs', h3, h4⟩ := h1
      obtain ⟨k, a', c', rfl, g1, g2, g3⟩ := ints_opened h4
      exact ⟨(k, a', c'), cell_of_cells?_one h3, g1, g2, g3⟩)
    refine ⟨cs.map (·.1), ⟨by simp [hcl], cs.map (fun c => .slice c.2.1 c.1.length c.2.2), ?_, by simp [hcl], fun i k hk => ?_⟩, by omega⟩
    · by_cases h0 : len = 0
      · left
        have : cs = [] := List.eq_nil_of_length_eq_zero (by omega)
        rw [this]; rfl
      · right
        have hc0 : cs[0]? = some (cs[0]'(by omega)) := List.getElem?_eq_getElem _
        have hx0 := (hc 0 _ hc0).1
        have hsp : ad.spot = none := by simpa [Addr.add] using World.cell?_spot hx0
        obtain ⟨b, o, sp⟩ := ad
        subst hsp
        refine ⟨b, o, rfl, lt_heap (a := (⟨b, o, none⟩ : Addr).add 0) hx0, fun k v hv => ?_⟩
        rw [List.getElem?_map, Option.map_eq_some_iff] at hv
        obtain ⟨q, hq, rfl⟩ := hv
        have h1 := (hc k q hq).1
        rw [Addr.add_lit] at h1
        exact h1
    · rw [List.getElem?_map, Option.map_eq_some_iff] at hk
      obtain ⟨q, hq, rfl⟩ := hk
      obtain ⟨_, g1, g2, g3⟩ := hc i q hq
      exact ⟨q.2.1, q.2.2, by rw [List.getElem?_map, hq]; rfl, g1, g2, g3⟩
end Go.Proofs.Ytjiijhbkbmnhbaa
