/- The walk of the law PostingsEncodes. -/
import Derived.Test.YtnflffhmnbjelaaQLeW
namespace Go.Proofs.Ytnflffhmnbjelaa
open Go.RowKit
set_option linter.unusedVariables false
set_option linter.unusedSimpArgs false
namespace postingsEncodes
set_option maxHeartbeats 4000000 in
set_option maxRecDepth 100000 in
theorem walk (a : Option Addr) (n cap : Nat) (zz : List Int) (p : Int) (w : World) (w0 : IsRow .i64 w a n cap zz) (hp : (Lit.int .i64 p).wf = true) :
    Calls Try.prog 8 #[.slice a n cap, .int .i64 p] w fun e w' => e = .returned (.bool true) ∧ Below w.heap.size w w' := by
  obtain ⟨z, hi, hc, hm, hz⟩ := w0.ints
  have HI := hide hi
  have HZ := hide hz
  clear hi w0 hz
  by_cases h3 : 300 < n
  · have h3' : (300 : Int) < (n : Int) := by omega
    go_enter Try.func8, Try.ntmps8
    go_wp2
    go_ret
    exact ⟨rfl, bl_refl w⟩
  have h3' : ¬ (300 : Int) < (n : Int) := by omega
  have hn3 : n ≤ 300 := by omega
  clear h3
  go_enter Try.func8, Try.ntmps8
  go_wp2_with fail
  refine (built_any a n cap z w HI.out HZ.out hc hm).mono ?_
  rintro e w1 ⟨h1, h2, hb1⟩
  have HB1 := hide hb1
  by_cases h0 : chkL z = 0
  · obtain ⟨g, rfl, hg, hs⟩ := h2 h0
    have HS := hide hs
    have HOK := hide (okQ_of h0)
    have HSZ := hide (szQ_of HOK.out (by rw [natsOf_length, ← HI.out.1]; omega))
    have HIV := hide (natsOf_iv h0)
    have HCK := hide h0
    have HDE := hide (decQ_enc h0)
    have HL4 := hide (show (natsOf z).length ≤ 4096 by rw [natsOf_length, ← HI.out.1]; omega)
    have HEL := hide (encQ_len HOK.out (by rw [natsOf_length, ← HI.out.1]; omega))
    obtain ⟨x, k, c, hx⟩ : ∃ x k c, seekZ z p = .tuple #[.int .i64 x, .int .i64 k, .bool c] := by
      unfold seekZ
      by_cases h : (z.findIdx fun x => decide (p ≤ x)) < z.length
      · rw [if_pos h]; exact ⟨_, _, _, rfl⟩
      · rw [if_neg h]; exact ⟨_, _, _, rfl⟩
    have HV := hide (show seekV (natsOf z) p = .tuple #[.int .i64 x, .int .i64 k, .bool c] by rw [seekV_Z h0, hx])
    obtain ⟨E, hE⟩ : ∃ E, E = encQ (natsOf z) := ⟨_, rfl⟩
    have HE := hide hE
    rw [← hE] at HDE HEL
    clear h1 h2 hb1 hs hg h0 hx hE
    go_wp2_with fail
    refine (encode_any g (natsOf z) w1 HS.out HOK.out HL4.out).mono ?_
    rintro e w2 ⟨v2, n2, rfl, -, ho2, hb2⟩
    rw [← HE.out] at ho2
    have HB2 := hide (HB1.out.trans (hb2.mono HB1.out.size))
    have HS2 := hide (HS.out.below hb2)
    obtain ⟨hq1, A2, c2, rfl, hc2, hr2, -, -⟩ := own_form ho2
    have HR2 := hide (show BRd w2 A2 E from hr2)
    have HN2 := hide (show n2 = E.length by rw [hq1, List.length_map])
    have hn2 : n2 ≤ 10000 := by rw [HN2.out]; exact HEL.out
    clear hq1 hr2 ho2 hb2
    go_wp2_with fail
    refine (decode_any A2 n2 c2 E w2 HN2.out hc2 hn2 HR2.out).mono ?_
    rintro e w3 ⟨hb3, -, hyes⟩
    obtain ⟨g2, rfl, -, hs3⟩ := hyes z HDE.out
    have HB3 := hide (HB2.out.trans (hb3.mono HB2.out.size))
    have HS3 := hide hs3
    have HT3 := hide (HS2.out.below hb3)
    have HR3 := hide (HR2.out.below hb3)
    clear hb3 hyes hs3
    go_wp2_with fail
    have kb := fun (wx : World) (h : CB w3.drew wx) => run_bytes_str (P := Try.prog) wx 42 9 5 A2 n2 c2 E Try.underlying42 Try.underlying5 Try.underlying9 HN2.out (HR3.out.below h.below)
    refine wp_region_K 5 (by kernel_rfl) (by kernel_rfl) (fun Q HQ => ?_)
    simp only [List.take_succ_cons, List.take_zero, List.map_cons, List.map_nil]
    repeat
      first
      | (refine wpS_skip (b := true) rfl (guard_mk rfl rfl) ?_)
      | (refine wpS_skip (b := false) rfl (guard_mk rfl rfl) ?_)
      | (first | apply wpS_c rfl | apply wpS_gc rfl (guard_mk rfl rfl)
         focus
           intro ev wx hC hx
           (try simp [Op.operands, Call.operands, opndS, Slot.holds] at hx)
           go_simp
           try (first | exact rfl | exact ⟨Below.refl _ _, rfl⟩)
           done)
      dsimp only [setS, List.set]
    refine wpS_p (R := FreshRow w3.heap.size 5 n2 (E.map u8v)) rfl (stab_fresh _ _ _ _) ?_ ?_
    focus
      intro ev wx hC hx
      (try simp [Op.operands, Call.operands, opndS, Slot.holds] at hx)
      go_simp
      refine (rencode_any a n cap z wx (HI.out.below (HB3.out.trans (hC.below.mono HB3.out.size))) HCK.out).mono ?_
      rintro e w' ⟨v, m', rfl, -, hown, hb⟩
      rw [← HE.out] at hown
      have hm' : m' = n2 := by have := (own_form hown).1; rw [this, List.length_map]; exact HN2.out.symm
      rw [hm'] at hown
      exact ⟨v, rfl, hb, Nat.le_trans hC.below.size hb.size, own_base hown hC.below.size⟩
    dsimp only [setS, List.set]
    refine wpS_c rfl (opS_str_fresh (.tmp 44) 42 9 5 rfl Try.underlying42 Try.underlying5 Try.underlying9 w3.heap.size n2 E rfl) ?_
    dsimp only [setS, List.set]
    refine wpS_nil (HQ _ fun w4 hC4 => ?_)
    simp only [closeS, List.drop_succ_cons, List.drop_zero, List.drop_nil]
    have HB4 := hide (HB3.out.trans (hC4.below.mono HB3.out.size))
    have HS4 := hide (HS3.out.below hC4.below)
    have HT4 := hide (HT3.out.below hC4.below)
    have HR4 := hide (HR3.out.below hC4.below)
    clear HQ kb hC4
    rintro v44 -
    have e5 : (E == E) = true := by rw [beq_iff_eq]
    have e6 : (E != E) = false := by simp only [bne, e5]; rfl
    go_wp2_with fail
    refine (seek_any g (natsOf z) p w4 HT4.out HOK.out HSZ.out).mono ?_
    rintro e w5 ⟨rfl, hb5⟩
    rw [HV.out]
    have HB5 := hide (HB4.out.trans (hb5.mono HB4.out.size))
    have HS5 := hide (HS4.out.below hb5)
    have HR5 := hide (HR4.out.below hb5)
    clear hb5
    go_wp2_with fail
    refine (seek_any g2 (natsOf z) p w5 HS5.out HOK.out HSZ.out).mono ?_
    rintro e w6 ⟨rfl, hb6⟩
    rw [HV.out]
    have HB6 := hide (HB5.out.trans (hb6.mono HB5.out.size))
    have HS6 := hide (HS5.out.below hb6)
    have HR6 := hide (HR5.out.below hb6)
    clear hb6
    go_wp2_with fail
    have kb := fun (wx : World) (h : CB w6.drew wx) => run_bytes_str (P := Try.prog) wx 42 9 5 A2 n2 c2 E Try.underlying42 Try.underlying5 Try.underlying9 HN2.out (HR6.out.below h.below)
    refine wp_region_K 25 (by kernel_rfl) (by kernel_rfl) (fun Q HQ => ?_)
    simp only [List.take_succ_cons, List.take_zero, List.map_cons, List.map_nil]
    repeat
      first
      | (refine wpS_skip (b := true) rfl (guard_mk rfl rfl) ?_)
      | (refine wpS_skip (b := false) rfl (guard_mk rfl rfl) ?_)
      | (first | apply wpS_c rfl | apply wpS_gc rfl (guard_mk rfl rfl)
         focus
           intro ev wx hC hx
           (try simp [Op.operands, Call.operands, opndS, Slot.holds] at hx)
           go_simp
           try (first | exact rfl | exact ⟨Below.refl _ _, rfl⟩)
           done)
      dsimp only [setS, List.set]
    refine wpS_gp (R := FreshRow w6.heap.size 3 n (z.map iv)) rfl (stab_fresh _ _ _ _) (guard_mk rfl rfl) ?_ ?_
    focus
      intro ev wx hC hx
      (try simp [Op.operands, Call.operands, opndS, Slot.holds] at hx)
      go_simp
      refine (all_any g2 (natsOf z) wx (HS6.out.below hC.below) HOK.out HSZ.out).mono ?_
      rintro e w' ⟨v, rfl, hown, hb⟩
      rw [HIV.out, natsOf_length, ← HI.out.1] at hown
      exact ⟨v, rfl, hb, Nat.le_trans hC.below.size hb.size, own_base hown hC.below.size⟩
    dsimp only [setS, List.set]
    repeat
      first
      | (refine wpS_skip (b := true) rfl (guard_mk rfl rfl) ?_)
      | (refine wpS_skip (b := false) rfl (guard_mk rfl rfl) ?_)
      | (first | apply wpS_c rfl | apply wpS_gc rfl (guard_mk rfl rfl)
         focus
           intro ev wx hC hx
           (try simp [Op.operands, Call.operands, opndS, Slot.holds] at hx)
           go_simp
           try (first | exact rfl | exact ⟨Below.refl _ _, rfl⟩)
           done)
      dsimp only [setS, List.set]
    refine wpS_gc (v := .bool true) rfl (guard_mk rfl rfl) ?_ ?_
    focus
      intro ev wx hC hx
      (try simp [Op.operands, Call.operands, opndS, Slot.holds] at hx)
      obtain ⟨hx0, ⟨hx1, hx2⟩, hx3⟩ := hx
      obtain ⟨-, A7, c7, e39, hc7, hr7, -, -⟩ := own_form hx2
      have hI7 : IsI wx A7 n z := ⟨HI.out.1, hr7⟩
      go_simp
      refine (same_ints A7 a n c7 n cap z z wx hI7 (HI.out.below (HB6.out.trans (hC.below.mono HB6.out.size))) hc7 hc (by omega) (by omega)).mono ?_
      rintro e w' ⟨rfl, hb⟩
      rw [decide_eq_true rfl]
      exact ⟨rfl, hb⟩
    dsimp only [setS, List.set]
    repeat
      first
      | (refine wpS_skip (b := true) rfl (guard_mk rfl rfl) ?_)
      | (refine wpS_skip (b := false) rfl (guard_mk rfl rfl) ?_)
      | (first | apply wpS_c rfl | apply wpS_gc rfl (guard_mk rfl rfl)
         focus
           intro ev wx hC hx
           (try simp [Op.operands, Call.operands, opndS, Slot.holds] at hx)
           go_simp
           try (first | exact rfl | exact ⟨Below.refl _ _, rfl⟩)
           done)
      dsimp only [setS, List.set]
    refine wpS_gp (R := FreshRow w6.heap.size 5 n2 (E.map u8v)) rfl (stab_fresh _ _ _ _) (guard_mk rfl rfl) ?_ ?_
    focus
      intro ev wx hC hx
      (try simp [Op.operands, Call.operands, opndS, Slot.holds] at hx)
      go_simp
      refine (encode_any g2 (natsOf z) wx (HS6.out.below hC.below) HOK.out HL4.out).mono ?_
      rintro e w' ⟨v, m', rfl, -, hown, hb⟩
      rw [← HE.out] at hown
      have hm' : m' = n2 := by have := (own_form hown).1; rw [this, List.length_map]; exact HN2.out.symm
      rw [hm'] at hown
      exact ⟨v, rfl, hb, Nat.le_trans hC.below.size hb.size, own_base hown hC.below.size⟩
    dsimp only [setS, List.set]
    refine wpS_gc rfl (guard_mk rfl rfl) (opS_str_fresh (.tmp 90) 42 9 5 rfl Try.underlying42 Try.underlying5 Try.underlying9 w6.heap.size n2 E rfl) ?_
    dsimp only [setS, List.set]
    repeat
      first
      | (refine wpS_skip (b := true) rfl (guard_mk rfl rfl) ?_)
      | (refine wpS_skip (b := false) rfl (guard_mk rfl rfl) ?_)
      | (first | apply wpS_c rfl | apply wpS_gc rfl (guard_mk rfl rfl)
         focus
           intro ev wx hC hx
           (try simp [Op.operands, Call.operands, opndS, Slot.holds] at hx)
           go_simp
           try (first | exact rfl | exact ⟨Below.refl _ _, rfl⟩)
           done)
      dsimp only [setS, List.set]
    refine wpS_nil (HQ _ fun w8 hC8 => ?_)
    simp only [closeS, List.drop_succ_cons, List.drop_zero, List.drop_nil]
    have HW8 := hide (HB6.out.trans (hC8.below.mono HB6.out.size))
    clear HQ kb hC8
    rintro v39 - v45 -
    go_wp2_with fail
    refine (awake_any w8).mono ?_
    rintro e w9 ⟨rfl, hb9⟩
    have HB9 := hide (HW8.out.trans (hb9.mono HW8.out.size))
    clear hb9
    go_wp2
    go_ret
    exact ⟨rfl, HB9.out⟩
  · obtain rfl := h1 h0
    clear h1 h2 hb1 h0
    go_wp2_with fail
    refine (awake_any w1).mono ?_
    rintro e w4 ⟨rfl, hb4⟩
    have HB4 := hide (HB1.out.trans (hb4.mono HB1.out.size))
    clear hb4
    go_wp2
    go_ret
    exact ⟨rfl, HB4.out⟩
end postingsEncodes
end Go.Proofs.Ytnflffhmnbjelaa
