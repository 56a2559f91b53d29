/- The walk of the law ListsChecks. -/
import Derived.Test.YtjiijhbkbmnhbaaLAwW
namespace Go.Proofs.Ytjiijhbkbmnhbaa
open Go.RowKit
set_option linter.unusedVariables false
set_option linter.unusedSimpArgs false
/-- A slice of ints that came in: a list of numbers, read. -/
theorem IsRow.ints {w : World} {a : Option Addr} {len cap : Nat} {zs : List Int} (h : IsRow .i64 w a len cap zs) :
    ∃ l : List Int, IsI w a len l ∧ len ≤ cap ∧ cap ≤ maxLen ∧ ∀ x ∈ l, (Lit.int .i64 x).wf = true := by
  rcases h with ⟨rfl, rfl, rfl, rfl⟩ | ⟨x, rfl, hl, hm, hz, hc, hw⟩
  · exact ⟨[], ⟨rfl, .inl rfl⟩, Nat.le_refl _, Nat.zero_le _, fun _ h => by simp at h⟩
  · refine ⟨zs.take len, ⟨by simp; omega, ?_⟩, hl, hm, fun y hy => hw y (List.mem_of_mem_take hy)⟩
    rcases Nat.eq_zero_or_pos len with h0 | h0
    · subst h0; exact .inl (by simp)
    · have hx0 := hc 0 (by omega)
      have hsp : x.spot = none := by simpa [Addr.add] using World.cell?_spot hx0
      obtain ⟨b, o, sp⟩ := x
      subst hsp
      refine .inr ⟨b, o, rfl, lt_heap (a := (⟨b, o, none⟩ : Addr).add 0) hx0, fun k v hv => ?_⟩
      rw [List.getElem?_map, Option.map_eq_some_iff] at hv
      obtain ⟨n, hn, rfl⟩ := hv
      have hk : k < zs.length := by
        have := (List.getElem?_eq_some_iff.1 hn).1
        simp at this; omega
      have h1 := hc k hk
      rw [Addr.add_lit] at h1
      rw [h1]
      have hnz : zs.getD k 0 = n := by
        rw [List.getElem?_take] at hn
        split at hn
        · simp [List.getD, hn]
        · cases hn
      rw [hnz]
      rfl
namespace listsChecks
set_option maxRecDepth 100000 in
theorem walk (a : Option Addr) (n cap : Nat) (z : List Int) (w : World) (w0 : IsRow .i64 w a n cap z) :
    Calls Try.prog 3 #[.slice a n cap] w fun e w' => e = .returned (.bool true) ∧ Below w.heap.size w w' := by
  obtain ⟨l, hi, hc, hm, _⟩ := w0.ints
  have HI := hide hi
  clear hi w0
  by_cases h3 : 300 < n
  · have h3' : (300 : Int) < (n : Int) := by omega
    go_enter Try.func3, Try.ntmps3
    go_wp2
    go_ret
    exact ⟨rfl, bl_refl w⟩
  have h3' : ¬ (300 : Int) < (n : Int) := by omega
  obtain ⟨q, hq⟩ : ∃ q, q = chkL l := ⟨_, rfl⟩
  go_enter Try.func3, Try.ntmps3
  go_wp2_with fail
  refine (check_any a n cap l w HI.out hc hm).mono ?_
  rintro e w1 ⟨rfl, hb1⟩
  rw [← hq]
  go_wp2_with fail
  refine (rcheck_any a n cap l w1 (HI.out.below hb1) hc hm).mono ?_
  rintro e w2 ⟨rfl, hb2⟩
  rw [← hq]
  clear hq
  go_wp2_with fail
  refine (awake_any _).mono ?_
  rintro e w3 ⟨rfl, hb3⟩
  go_wp2
  go_ret
  exact ⟨rfl, bl_trans hb1 (bl_trans hb2 hb3)⟩
end listsChecks
end Go.Proofs.Ytjiijhbkbmnhbaa
