/- The walks of the laws ChecksumSeals and ChecksumUnseals. -/
import Derived.Test.YtgmljklgdokddaaUnsealW
namespace Go.Proofs.Ytgmljklgdokddaa
open Go.RowKit
set_option linter.unusedVariables false
set_option linter.unusedSimpArgs false

namespace checksumSeals
set_option maxRecDepth 100000 in
theorem walk (a0 : Option Addr) (len0 cap0 : Nat) (z0 : List Int) (w : World) (w0 : IsRow .u8 w a0 len0 cap0 z0) :
    Calls Try.prog 5 #[.slice a0 len0 cap0] w fun e w' => e = .returned (.bool true) ∧ Below w.heap.size w w' := by
  obtain ⟨l, hl, hr, hc, hm, hn⟩ := w0.bytes
  have HL := hide hl.symm
  have HR := hide hr
  have HN := hide hn
  unfold maxLen at hm
  clear hl hr hn w0
  by_cases h2 : 2000 < len0
  · go_enter Try.func5, Try.ntmps5
    go_wp2
    go_ret
    exact ⟨rfl, bl_refl _⟩
  · go_enter Try.func5, Try.ntmps5
    go_wp2_with fail
    refine (seal_any _ _ _ l _ HL.out (by omega) hc HN.out HR.out).mono ?_
    rintro e w1 ⟨v1, rfl, hown1, hb1⟩
    obtain ⟨hx1, a1, c1, rfl, hc1, hrd1, hx2⟩ := own_form hown1
    clear hx1 hx2
    have HR1 := hide (show BRd w1 a1 (l ++ le32 (crc l)) from hrd1)
    clear hown1 hrd1
    go_wp2_with fail
    refine (unseal_any a1 len0 c1 l _ _ _ _ w1 HL.out (by omega) hc1 HR1.out).mono ?_
    rintro e w2 ⟨hb2, ⟨hq, v2, rfl, hown2⟩ | ⟨hq, rfl⟩⟩
    · obtain ⟨hx1, a2, c2, rfl, hc2, hrd2, hx2⟩ := own_form hown2
      have HR2 := hide (show BRd w2 a2 l from hrd2)
      clear hx1 hx2 hown2 hrd2 hq
      rw [← HL.out]
      have hb12 := bl_trans hb1 hb2
      go_wp2_with fail
      obtain ⟨s, hs⟩ : ∃ s, s = l ++ le32 (crc l) := ⟨_, rfl⟩
      have HS := hide hs
      have k1 := fun (wx : World) (h : CB w2.drew wx) => run_bytes_str (P := Try.prog) wx 22 9 5 a1 (len0 + 4) c1 s Try.underlying22 Try.underlying5 Try.underlying9 (by rw [hs, List.length_append, HL.out]; rfl) (by rw [hs]; exact (HR1.out.below hb2).below h.below)
      have k2 := fun (wx : World) (h : CB w2.drew wx) => run_bytes_str (P := Try.prog) wx 22 9 5 a2 len0 c2 l Try.underlying22 Try.underlying5 Try.underlying9 HL.out (HR2.out.below h.below)
      have k3 := fun (wx : World) (h : CB w2.drew wx) => run_bytes_str (P := Try.prog) wx 22 9 5 a0 len0 cap0 l Try.underlying22 Try.underlying5 Try.underlying9 HL.out ((HR.out.below hb12).below h.below)
      clear hs
      refine wp_region_K 21 (by kernel_rfl) (by kernel_rfl) (fun Q HQ => ?_)
      simp only [List.take_succ_cons, List.take_zero, List.map_cons, List.map_nil]
      repeat
        first | apply wpS_c rfl | apply wpS_gc rfl (guard_mk rfl rfl)
        focus
          intro ev wx hC hx
          (try simp [Op.operands, Call.operands, opndS, Slot.holds] at hx)
          go_simp
          try (first | exact rfl | exact ⟨Below.refl _ _, rfl⟩)
          done
        dsimp only [setS, List.set]
      refine wpS_p (R := FreshRow w.heap.size 5 (len0 + 4) (s.map u8v)) rfl (stab_fresh _ _ _ _) ?_ ?_
      focus
        intro ev wx hC hx
        (try simp [Op.operands, Call.operands, opndS, Slot.holds] at hx)
        go_simp
        refine (rseal_any _ _ _ l _ HL.out (by omega) ((HR.out.below hb12).below hC.below)).mono ?_
        rintro e w' ⟨v, rfl, hown, hb⟩
        rw [← HS.out] at hown
        exact ⟨v, rfl, hb, by have := hb12.size; have := hC.below.size; have := hb.size; omega, own_base hown (by have := hb12.size; have := hC.below.size; omega)⟩
      dsimp only [setS, List.set]
      refine wpS_c rfl (opS_str_fresh (.tmp 19) 22 9 5 rfl Try.underlying22 Try.underlying5 Try.underlying9 w.heap.size (len0 + 4) s rfl) ?_
      dsimp only [setS, List.set]
      repeat
        first | apply wpS_c rfl | apply wpS_gc rfl (guard_mk rfl rfl)
        focus
          intro ev wx hC hx
          (try simp [Op.operands, Call.operands, opndS, Slot.holds] at hx)
          go_simp
          try (first | exact rfl | exact ⟨Below.refl _ _, rfl⟩ | (go_at_call 13; refine (awake_any _).mono ?_; rintro e w' ⟨rfl, hb⟩; exact ⟨rfl, hb⟩))
          done
        dsimp only [setS, List.set]
      refine wpS_nil (HQ _ fun w3 hC3 => ?_)
      simp only [closeS, List.drop_succ_cons, List.drop_zero, List.drop_nil]
      clear HQ k1 k2 k3
      rintro v0 -
      go_wp2
      go_ret
      exact ⟨rfl, bl_trans hb12 hC3.below⟩
    · exact absurd rfl hq
end checksumSeals

namespace checksumUnseals
set_option maxRecDepth 100000 in
theorem walk (a0 : Option Addr) (len0 cap0 : Nat) (z0 : List Int) (w : World) (w0 : IsRow .u8 w a0 len0 cap0 z0) :
    Calls Try.prog 6 #[.slice a0 len0 cap0] w fun e w' => e = .returned (.bool true) ∧ Below w.heap.size w w' := by
  obtain ⟨l, hl, hr, hc, hm, hn⟩ := w0.bytes
  have HL := hide hl.symm
  have HR := hide hr
  have HN := hide hn
  unfold maxLen at hm
  clear hl hr hn w0
  by_cases h2 : 2000 < len0
  · go_enter Try.func6, Try.ntmps6
    go_wp2
    go_ret
    exact ⟨rfl, bl_refl _⟩
  · by_cases h4 : len0 < 4
    · go_enter Try.func6, Try.ntmps6
      go_wp2_with fail
      refine (unseal_short _ _ _ _ h4).mono ?_
      rintro e w' ⟨rfl, rfl⟩
      go_wp2_with fail
      refine (runseal_short _ _ _ _ h4).mono ?_
      rintro e w' ⟨rfl, rfl⟩
      go_wp2_with fail
      refine (awake_any _).mono ?_
      rintro e w3 ⟨rfl, hb3⟩
      go_wp2_with fail
      go_ret
      exact ⟨rfl, hb3⟩
    · obtain ⟨n, rfl⟩ : ∃ n, len0 = n + 4 := ⟨len0 - 4, by omega⟩
      obtain ⟨p, q0, q1, q2, q3, hlp, hpn⟩ : ∃ p q0 q1 q2 q3, l = p ++ [q0, q1, q2, q3] ∧ n = p.length := by
        have h1 := HL.out
        have h3 : (l.drop n).length = 4 := by simp; omega
        match hd : l.drop n, h3 with
        | [q0, q1, q2, q3], _ => exact ⟨l.take n, q0, q1, q2, q3, by rw [← hd, List.take_append_drop], by simp; omega⟩
      subst hlp
      have HP := hide hpn
      clear hpn
      go_enter Try.func6, Try.ntmps6
      go_wp2_with fail
      refine (unseal_any a0 n cap0 p _ _ _ _ w HP.out (by omega) hc HR.out).mono ?_
      rintro e w2 ⟨hb2, ⟨hq, v2, rfl, hown2⟩ | ⟨hq, rfl⟩⟩
      · obtain ⟨hx1, a2, c2, rfl, hc2, hrd2, hx2⟩ := own_form hown2
        have HR2 := hide (show BRd w2 a2 p from hrd2)
        clear hx1 hx2 hown2 hrd2
        rw [← HP.out]
        go_wp2_with fail
        refine (runseal_any a0 n cap0 p [q0, q1, q2, q3] w2 HP.out rfl (by omega) hc (HR.out.below hb2)).mono ?_
        rintro e w3 ⟨hb3, v3, rfl, hown3⟩
        rw [decide_eq_true hq]
        obtain ⟨hx1, a3, c3, rfl, hc3, hrd3, hx2⟩ := own_form hown3
        have HR3 := hide (show BRd w3 a3 p from hrd3)
        clear hx1 hx2 hown3 hrd3 hq
        rw [← HP.out]
        have k1 := run_bytes_str (P := Try.prog) w3 22 9 5 a2 n c2 p Try.underlying22 Try.underlying5 Try.underlying9 HP.out (HR2.out.below hb3)
        have k2 := run_bytes_str (P := Try.prog) w3 22 9 5 a3 n c3 p Try.underlying22 Try.underlying5 Try.underlying9 HP.out HR3.out
        go_wp2_with fail
        refine (awake_any _).mono ?_
        rintro e w4 ⟨rfl, hb4⟩
        go_wp2_with fail
        go_ret
        exact ⟨rfl, bl_trans hb2 (bl_trans hb3 hb4)⟩
      · go_wp2_with fail
        refine (runseal_any a0 n cap0 p [q0, q1, q2, q3] w2 HP.out rfl (by omega) hc (HR.out.below hb2)).mono ?_
        rintro e w3 ⟨hb3, v3, rfl, hown3⟩
        rw [decide_eq_false hq]
        clear hown3 hq
        go_wp2_with fail
        refine (awake_any _).mono ?_
        rintro e w4 ⟨rfl, hb4⟩
        go_wp2_with fail
        go_ret
        exact ⟨rfl, bl_trans hb2 (bl_trans hb3 hb4)⟩
end checksumUnseals
end Go.Proofs.Ytgmljklgdokddaa
