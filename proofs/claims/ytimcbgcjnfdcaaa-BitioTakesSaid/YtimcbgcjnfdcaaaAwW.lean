/- The document's examples. -/
import Derived.Test.YtimcbgcjnfdcaaaWrW
namespace Go.Proofs.Ytimcbgcjnfdcaaa
open Go.RowKit
set_option linter.unusedVariables false
set_option linter.unusedSimpArgs false

theorem WStep.below {base g : Nat} {r : Option Nat} {w w' : World} {l l' : List Bool} (h : WStep base g r w l' w') (hw : WrS w base g r l) (hbs : base ≤ w.heap.size) : Below base w w' := by
  obtain ⟨r', _, hc, _⟩ := h
  exact hc.below hw.lt.2.1 (fun k hk => (hw.lt.2.2 k hk).1) hbs
set_option maxRecDepth 100000 in
theorem awake_any (w : World) : Calls Try.prog 16 #[] w fun e w' => e = .returned (.bool true) ∧ Below w.heap.size w w' := by
  go_enter Try.func16, Try.ntmps16
  go_wp2_with fail
  refine (newwriter_any w).mono ?_
  rintro e w1 ⟨rfl, hs1, hb1⟩
  have HS1 := hide hs1
  clear hs1
  go_wp2_with fail
  refine (putuv_any none 0 0 300 [] 300 w1 rfl (by decide) rfl (by decide) (Rd.nil _ _)).mono ?_
  rintro e w2 ⟨v, rfl, hown, hb2⟩
  obtain ⟨_, a, c, rfl, _, hrd, _⟩ := own_form hown
  have k1 := run_bytes_str (P := Try.prog) w2 22 9 5 a _ c [172, 2] Try.underlying22 Try.underlying5 Try.underlying9 (show (uv 300).length = 2 by decide) hrd
  have HS2 := hide (HS1.out.below hb2)
  have hbs2 : w.heap.size ≤ w2.heap.size := Nat.le_trans hb1.size hb2.size
  have HB2 := hide (show Below w.heap.size w w2 from bl_trans hb1 hb2)
  clear hown hrd
  have e2 : (bstr [172, 2] == (⟨#[172, 2]⟩ : ByteArray)) = true := by decide
  go_wp2_with fail
  refine (wgamma_any w.heap.size w.heap.size none [] 5 5 w2 rfl (by decide) HS2.out (by simp) hbs2).mono ?_
  rintro e w3 ⟨rfl, hst⟩
  rw [show [] ++ (wGamma 5).getD [] = [false, false, true, false, true] by decide] at hst
  rw [show cod (wGamma 5) = 0 by decide]
  obtain ⟨r1, hs1, hbs3, hn⟩ := hst.next hbs2
  have HN := hide hn
  have HS3 := hide hs1
  have HST := hide hst
  clear hst hn hs1 k1 e2
  go_wp2_with fail
  refine (wdelta_any w.heap.size w.heap.size r1 [false, false, true, false, true] 5 5 w3 rfl (by decide) HS3.out (by simp) hbs3).mono ?_
  rintro e w4 ⟨rfl, hst⟩
  rw [show [false, false, true, false, true] ++ (wDelta 5).getD [] = [false, false, true, false, true, false, true, true, false, true] by decide] at hst
  rw [show cod (wDelta 5) = 0 by decide]
  obtain ⟨r2, hs2, hbs4, hn2⟩ := hst.next hbs3
  have HS4 := hide hs2
  have HB4 := hide (show Below w.heap.size w w4 from HB2.out.trans ((HN.out _ _ hst).below HS2.out hbs2))
  clear hst hs2 hn2
  go_wp2_with fail
  refine (wlen_any w.heap.size w.heap.size r2 _ w4 HS4.out (by simp)).mono ?_
  rintro e w' ⟨rfl, rfl⟩
  rw [show ([false, false, true, false, true, false, true, true, false, true] : List Bool).length = 10 from rfl]
  go_wp2_with fail
  refine (wbytes_any w.heap.size w.heap.size r2 _ w4 HS4.out (by simp) hbs4).mono ?_
  rintro e w5 ⟨v, rfl, hown, hb5⟩
  obtain ⟨_, a, c, rfl, _, hrd, _⟩ := own_form hown
  have k1 := run_bytes_str (P := Try.prog) w5 22 9 5 a (packL [false, false, true, false, true, false, true, true, false, true]).length c [43, 64] Try.underlying22 Try.underlying5 Try.underlying9 (by decide) hrd
  have HB5 := hide (show Below w.heap.size w w5 from HB4.out.trans (hb5.mono hbs4))
  clear hown hrd
  generalize (packL [false, false, true, false, true, false, true, true, false, true]).length = n at k1 ⊢
  have e2 : (bstr [43, 64] == (⟨#[43, 64]⟩ : ByteArray)) = true := by decide
  go_wp2_with fail
  go_ret
  exact ⟨rfl, HB5.out⟩
end Go.Proofs.Ytimcbgcjnfdcaaa
