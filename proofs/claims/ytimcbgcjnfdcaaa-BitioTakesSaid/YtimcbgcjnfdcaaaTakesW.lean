/- The walk of the law BitioTakes. -/
import Derived.Test.YtimcbgcjnfdcaaaAwW
namespace Go.Proofs.Ytimcbgcjnfdcaaa
open Go.RowKit
set_option linter.unusedVariables false
set_option linter.unusedSimpArgs false
namespace bitioTakes
set_option maxRecDepth 100000 in
theorem walk (a0 : Option Addr) (len0 cap0 : Nat) (z0 : List Int) (w : World) (w0 : IsRow .u8 w a0 len0 cap0 z0) :
    Calls Try.prog 6 #[.slice a0 len0 cap0] w fun e w' => e = .returned (.bool true) ∧ Below w.heap.size w w' := by
  obtain ⟨l, hl, hr, hc, hm, hn⟩ := w0.bytes
  have HL := hide hl.symm
  have HR := hide hr
  unfold maxLen at hm
  clear hl hr hn w0
  by_cases h2 : 100 < len0
  · go_enter Try.func6, Try.ntmps6
    go_wp2
    go_ret
    exact ⟨rfl, bl_refl _⟩
  · go_enter Try.func6, Try.ntmps6
    go_wp2_with fail
    refine (uvarint_any _ _ _ l _ HL.out (by omega) HR.out).mono ?_
    rintro e w1 ⟨rfl, rfl⟩
    obtain ⟨⟨d0, d1, d2⟩, hd⟩ : ∃ d, d = dec 0 0 l := ⟨_, rfl⟩
    rw [← hd]
    have HD := hide hd
    clear hd
    unfold decV
    simp only []
    go_wp2_with fail
    refine (take_any _ _ _ l _ HL.out (by omega) HR.out).mono ?_
    rintro e w1 ⟨rfl, rfl⟩
    rw [← HD.out]
    unfold decV
    simp only []
    go_wp2_with fail
    refine (awake_any _).mono ?_
    rintro e w3 ⟨rfl, hb3⟩
    go_wp2_with fail
    go_ret
    exact ⟨rfl, hb3⟩
end bitioTakes
end Go.Proofs.Ytimcbgcjnfdcaaa
