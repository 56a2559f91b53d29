/- The walks of the laws BlockUnpacks and BlockGets. -/
import Derived.Test.YtchcaidcohgjbaaKRuW
namespace Go.Proofs.Ytchcaidcohgjbaa
open Go.RowKit
set_option linter.unusedVariables false
set_option linter.unusedSimpArgs false
namespace blockUnpacks
set_option maxHeartbeats 1000000 in
set_option maxRecDepth 100000 in
theorem walk (a : Option Addr) (n cap : Nat) (z : List Int) (w : World) (w0 : IsRow .u8 w a n cap z) :
    Calls Try.prog 7 #[.slice a n cap] w fun e w' => e = .returned (.bool true) ∧ Below w.heap.size w w' := by
  obtain ⟨b, hl, hr, hc, hm, hn⟩ := w0.bytes
  have HL := hide hl.symm
  have HR := hide hr
  have HN := hide hn
  unfold maxLen at hm
  clear hl hr hn w0
  by_cases h2 : 300 < n
  · go_enter Try.func7, Try.ntmps7
    go_wp2
    go_ret
    exact ⟨rfl, bl_refl _⟩
  have HU := hide (unpack_any a n cap b w HL.out hc (by omega) HN.out HR.out)
  have HRU := hide (fun (wx : World) (h : Below w.heap.size w wx) => runpack_any a n cap b wx HL.out hc (by omega) HN.out (HR.out.below h))
  rw [← blk_same] at HRU
  go_enter Try.func7, Try.ntmps7
  cases ho : blkOf hlP b with
  | none =>
    rw [ho] at HU HRU
    go_wp2_with fail
    refine HU.out.mono ?_
    rintro e w1 ⟨rfl, hb1⟩
    have HB1 := hide hb1
    clear hb1
    go_wp2_with fail
    refine (HRU.out w1 HB1.out).mono ?_
    rintro e w2 ⟨rfl, hb2⟩
    have HB2 := hide (bl_trans HB1.out hb2)
    clear hb2
    go_wp2_with fail
    refine (awake_any w2).mono ?_
    rintro e w3 ⟨rfl, hb3⟩
    go_wp2
    go_ret
    exact ⟨rfl, bl_trans HB2.out hb3⟩
  | some vs =>
    rw [ho] at HU HRU
    have hvl : vs.length ≤ 128 := ((blkOf_iff hlP hlP_ok b vs).1 ho).1.1
    go_wp2_with fail
    refine HU.out.mono ?_
    rintro e w1 ⟨⟨v1, rfl, ho1⟩, hb1⟩
    obtain ⟨A1, c1, rfl, _, hv1⟩ := own_isV ho1
    have HV1 := hide hv1
    have HB1 := hide hb1
    clear hb1 hv1 ho1
    go_wp2_with fail
    refine (HRU.out w1 HB1.out).mono ?_
    rintro e w2 ⟨⟨v2, rfl, ho2⟩, hb2⟩
    obtain ⟨A2, c2, rfl, _, hv2⟩ := own_isV ho2
    have HV2 := hide hv2
    have HV1' := hide (HV1.out.below hb2)
    have HB2 := hide (bl_trans HB1.out hb2)
    clear hb2 hv2 ho2
    obtain ⟨N, hN⟩ : ∃ N, N = vs.length := ⟨_, rfl⟩
    rw [← hN] at HV2 HV1' hvl ⊢
    clear hN
    go_wp2_with fail
    refine (sameI_any A1 A2 N N c1 c2 vs vs w2 HV1'.out HV2.out (by omega)).mono ?_
    rintro e w3 ⟨rfl, hb3⟩
    rw [beq_self_eq_true]
    have HB3 := hide (bl_trans HB2.out hb3)
    clear hb3
    go_wp2_with fail
    refine (awake_any w3).mono ?_
    rintro e w4 ⟨rfl, hb4⟩
    go_wp2
    go_ret
    exact ⟨rfl, bl_trans HB3.out hb4⟩
end blockUnpacks
namespace blockGets
set_option maxHeartbeats 1000000 in
set_option maxRecDepth 100000 in
theorem walk (a : Option Addr) (n cap : Nat) (z : List Int) (i : Int) (w : World) (w0 : IsRow .u8 w a n cap z) (w1 : (Lit.int .i64 i).wf = true) :
    Calls Try.prog 9 #[.slice a n cap, .int .i64 i] w fun e w' => e = .returned (.bool true) ∧ Below w.heap.size w w' := by
  obtain ⟨b, hl, hr, hc, hm, hn⟩ := w0.bytes
  have HL := hide hl.symm
  have HR := hide hr
  have HN := hide hn
  unfold maxLen at hm
  clear hl hr hn w0 w1
  by_cases h2 : 300 < n
  · go_enter Try.func9, Try.ntmps9
    go_wp2
    go_ret
    exact ⟨rfl, bl_refl _⟩
  have HU := hide (get_any a n cap b i w HL.out hc (by omega) HN.out HR.out)
  have HRU := hide (fun (wx : World) (h : Below w.heap.size w wx) => runpack_any a n cap b wx HL.out hc (by omega) HN.out (HR.out.below h))
  rw [← blk_same] at HRU
  go_enter Try.func9, Try.ntmps9
  cases ho : blkOf hlP b with
  | none =>
    rw [ho] at HU HRU
    have HU2 : Hid (Calls Try.prog 21 #[.slice a n cap, .int .i64 i] w fun e w' => e = .returned (.tuple #[.int .i64 0, .int .i64 9]) ∧ Below w.heap.size w w') := HU
    go_wp2_with fail
    refine HU2.out.mono ?_
    rintro e w1 ⟨rfl, hb1⟩
    have HB1 := hide hb1
    clear hb1
    go_wp2_with fail
    refine (HRU.out w1 HB1.out).mono ?_
    rintro e w2 ⟨rfl, hb2⟩
    have HB2 := hide (bl_trans HB1.out hb2)
    clear hb2
    go_wp2_with fail
    refine (awake_any w2).mono ?_
    rintro e w3 ⟨rfl, hb3⟩
    go_wp2
    go_ret
    exact ⟨rfl, bl_trans HB2.out hb3⟩
  | some vs =>
    rw [ho] at HU HRU
    have hvl : vs.length ≤ 128 := ((blkOf_iff hlP hlP_ok b vs).1 ho).1.1
    have hg : getM (some vs) i = if i < 0 ∨ (vs.length : Int) ≤ i then (0, 8) else (vs.getD i.toNat 0, 0) := rfl
    go_wp2_with fail
    refine HU.out.mono ?_
    rintro e w1 ⟨rfl, hb1⟩
    have HB1 := hide hb1
    clear hb1
    obtain ⟨gv, ge, hge⟩ : ∃ x y, getM (some vs) i = (x, y) := ⟨_, _, rfl⟩
    rw [hge] at hg ⊢
    have HG := hide hg
    clear hg hge
    simp only
    go_wp2_with fail
    refine (HRU.out w1 HB1.out).mono ?_
    rintro e w2 ⟨⟨v2, rfl, ho2⟩, hb2⟩
    obtain ⟨A2, c2, rfl, _, hv2⟩ := own_isV ho2
    have HV2 := hide hv2
    have HB2 := hide (bl_trans HB1.out hb2)
    clear hb2 hv2 ho2
    obtain ⟨N, hN⟩ : ∃ N, N = vs.length := ⟨_, rfl⟩
    rw [← hN] at HV2 HG hvl ⊢
    clear hN
    by_cases h1 : i < 0
    · obtain ⟨rfl, rfl⟩ := Prod.mk.inj (HG.out.trans (if_pos (.inl h1)))
      go_wp2_with fail
      refine (awake_any w2).mono ?_
      rintro e w3 ⟨rfl, hb3⟩
      go_wp2
      go_ret
      exact ⟨rfl, bl_trans HB2.out hb3⟩
    by_cases h3 : (N : Int) ≤ i
    · obtain ⟨rfl, rfl⟩ := Prod.mk.inj (HG.out.trans (if_pos (.inr h3)))
      go_wp2_with fail
      refine (awake_any w2).mono ?_
      rintro e w3 ⟨rfl, hb3⟩
      go_wp2
      go_ret
      exact ⟨rfl, bl_trans HB2.out hb3⟩
    obtain ⟨k, rfl⟩ := Int.eq_ofNat_of_zero_le (show 0 ≤ i by omega)
    obtain ⟨b', o, x, rfl, hbl, hx, e0⟩ := HV2.out.at_ (k := k) (by omega)
    obtain ⟨hgx, rfl⟩ := Prod.mk.inj (HG.out.trans (if_neg (by omega)))
    rw [Int.toNat_natCast, show vs.getD k 0 = x by simp [List.getD, hx]] at hgx
    subst hgx
    clear hx
    have h4 : (k : Int) < (N : Int) := by omega
    go_wp2_with fail
    refine (awake_any w2).mono ?_
    rintro e w3 ⟨rfl, hb3⟩
    go_wp2
    go_ret
    exact ⟨rfl, bl_trans HB2.out hb3⟩
end blockGets
end Go.Proofs.Ytchcaidcohgjbaa
