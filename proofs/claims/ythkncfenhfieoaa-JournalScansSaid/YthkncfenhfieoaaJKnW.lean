/- The chapter's example; equality of lists of records. -/
import Derived.Test.YthkncfenhfieoaaJScanW
import Derived.Test.YthkncfenhfieoaaJRecW
namespace Go.Proofs.Ythkncfenhfieoaa
open Go.RowKit
set_option linter.unusedVariables false
set_option linter.unusedSimpArgs false
theorem own_slice {w : World} {base size n : Nat} {e : TypeId} {v : Value} {xs : List Value} (h : w.ownsRow base e size v n xs) : ∃ a c, v = .slice a n c ∧ n ≤ c := by
  rcases h.2 with ⟨rfl, rfl⟩ | ⟨g, cap, cur, rfl, _, _, hn, _⟩
  · exact ⟨none, 0, rfl, Nat.le_refl _⟩
  · exact ⟨_, cap, rfl, hn⟩
/-- Records that the call owns, read. -/
theorem own_recs {w : World} {base n : Nat} {e : TypeId} {v : Value} {l : List Rec} (h : w.ownsRow base e 2 v n (l.flatMap recC)) (hn : n = l.length) : ∃ a c, v = .slice a n c ∧ n ≤ c ∧ IsRecs w a n l := by
  subst hn
  rcases h.2 with ⟨rfl, h0⟩ | ⟨g, cap, cur, rfl, hb, hg, hnc, _, _, ht⟩
  · refine ⟨none, 0, by rw [h0], by omega, rfl, .inl ?_⟩
    have : l = [] := List.eq_nil_of_length_eq_zero h0
    rw [this]; rfl
  · refine ⟨_, cap, rfl, hnc, rfl, .inr ⟨g, 0, rfl, (Array.getElem?_eq_some_iff.1 hg).1, fun k v hk => ?_⟩⟩
    have := h.cells (g := g) rfl k v hk
    rwa [Addr.add_lit] at this
def zeros9 : List UInt8 := [0, 0, 0, 0, 0, 0, 0, 0, 0]
theorem scan0 : IsScan zeros9 [] zeros9 := ⟨rfl, by simp, chkM_none (.inr (.inr (.inl ⟨by decide, by decide⟩)))⟩
theorem state0 : stateM zeros9 = 1 := by decide
theorem okT : okR ((2 : Int), [(116 : UInt8)]) := ⟨.inr rfl, by decide⟩
theorem scanT : IsScan (encR ((2 : Int), [(116 : UInt8)])) [((2 : Int), [(116 : UInt8)])] [] := ⟨by simp [encL], by intro r hr; simp at hr; subst hr; exact okT, rfl⟩
set_option maxRecDepth 100000 in
theorem known_any (w : World) : Calls Try.prog 17 #[] w fun e w' => e = .returned (.bool true) ∧ Below w.heap.size w w' := by
  obtain ⟨T, hT⟩ : ∃ T, T = bstr (encR ((2 : Int), [(116 : UInt8)])) := ⟨_, rfl⟩
  have hv : encV ((2 : Int), [(116 : UInt8)]) = .returned (.tuple #[.string T, .int .i64 0]) := by
    unfold encV
    rw [encO_ok okT, encE_ok okT, hT]; rfl
  have hts : T.size = 10 := by rw [str_size hT, encR_length]; rfl
  have HT := hide hT
  have HV := hide hv
  clear hT hv
  go_enter Try.func17, Try.ntmps17
  go_wp2_with fail
  refine (scan_any _ zeros9 [] zeros9 w rfl (by decide) scan0).mono ?_
  rintro e w1 ⟨v1, rfl, hown1, hb1⟩
  obtain ⟨a1, c1, rfl, _⟩ := own_slice hown1
  rw [state0, show (encL []).length = 0 from rfl, show ([] : List Rec).length = 0 from rfl]
  clear hown1
  go_wp2_with fail
  refine (enc_any 2 _ [116] w1 rfl (by decide)).mono ?_
  rintro e w2 ⟨rfl, hb2⟩
  rw [HV.out]
  go_wp2_with fail
  refine (scan_any T _ _ [] w2 HT.out (by rw [encR_length]; decide) scanT).mono ?_
  rintro e w3 ⟨v3, rfl, hown3, hb3⟩
  obtain ⟨a3, c3, rfl, _⟩ := own_slice hown3
  rw [show stateM [] = 0 from rfl, show (encL [((2 : Int), [(116 : UInt8)])]).length = 10 by rw [encL_cons, List.length_append, encR_length]; rfl, show ([((2 : Int), [(116 : UInt8)])] : List Rec).length = 1 from rfl]
  clear hown3
  go_wp2
  go_ret
  exact ⟨rfl, bl_trans hb1 (bl_trans hb2 hb3)⟩
end Go.Proofs.Ythkncfenhfieoaa
