/- The walks of the laws PostingsEncodes and PostingsDecodes. -/
import Derived.Test.YtnflffhmnbjelaaQRdW
import Derived.Test.YtnflffhmnbjelaaQLcW
namespace Go.Proofs.Ytnflffhmnbjelaa
open Go.RowKit
set_option linter.unusedVariables false
set_option linter.unusedSimpArgs false
theorem skBs_len (l : List Nat) : ∀ k, (skBs l k).length ≤ 20 * k
  | 0 => by simp [skBs]
  | k + 1 => by
    have h := skBs_len l k
    have h1 := uv_len (l.getD (16 * (k + 1)) 0 - l.getD (16 * (k + 1 - 1)) 0)
    have h2 := uv_len (posQ l (16 * (k + 1)) - posQ l (16 * (k + 1 - 1)))
    rw [skBs_succ, List.length_append]
    unfold skB
    rw [List.length_append]
    omega
theorem encQ_len {l : List Nat} (hok : okQ l) (h : l.length ≤ 300) : (encQ l).length ≤ 10000 := by
  have h1 := skBs_len l ((l.length + 15) / 16 - 1)
  have h2 := uv_len l.length
  have h3 := uv_len (posQ l l.length)
  have h4 := (szQ_of hok h).2
  unfold encQ encP heP
  simp only [List.length_append, packL_length, le32, List.length_cons, List.length_nil]
  unfold nby
  unfold posQ at h4 h3 ⊢
  omega
namespace postingsDecodes
set_option maxHeartbeats 4000000 in
set_option maxRecDepth 100000 in
theorem walk (a : Option Addr) (n cap : Nat) (zz : List Int) (w : World) (w0 : IsRow .u8 w a n cap zz) :
    Calls Try.prog 9 #[.slice a n cap] w fun e w' => e = .returned (.bool true) ∧ Below w.heap.size w w' := by
  obtain ⟨b, hn, hr, hc, hm, hcn⟩ := w0.bytes
  have HN := hide hn.symm
  have HR := hide hr
  clear hn hr w0 hcn
  by_cases h6 : 600 < n
  · have h6' : (600 : Int) < (n : Int) := by omega
    go_enter Try.func9, Try.ntmps9
    go_wp2
    go_ret
    exact ⟨rfl, bl_refl w⟩
  have h6' : ¬ (600 : Int) < (n : Int) := by omega
  have hn6 : n ≤ 600 := by omega
  clear h6
  go_enter Try.func9, Try.ntmps9
  go_wp2_with fail
  refine (decode_any a n cap b w HN.out hc (by omega) HR.out).mono ?_
  rintro e w1 ⟨hb1, hno, hyes⟩
  have HB1 := hide hb1
  have HR1 := hide (HR.out.below hb1)
  have HRD := hide (rdecode_any a n cap b w1 HN.out hc hn6 HR1.out)
  cases hd : decQ b with
  | none =>
    obtain rfl := hno hd
    have HD := hide hd
    clear hno hyes hb1 hd
    go_wp2_with fail
    refine HRD.out.mono ?_
    rintro e w2 ⟨hb2, hno, -⟩
    obtain rfl := hno HD.out
    have HB2 := hide (HB1.out.trans (hb2.mono HB1.out.size))
    clear hb2 hno
    go_wp2_with fail
    refine (awake_any w2).mono ?_
    rintro e w3 ⟨rfl, hb3⟩
    have HB3 := hide (HB2.out.trans (hb3.mono HB2.out.size))
    clear hb3
    go_wp2
    go_ret
    exact ⟨rfl, HB3.out⟩
  | some z =>
    obtain ⟨g, rfl, hg, hs⟩ := hyes z hd
    obtain ⟨hck, henc⟩ := decQ_spec hd
    have hok := okQ_of hck
    have hpos := encQ_pos (natsOf z)
    rw [henc, ← HN.out] at hpos
    have hlen4 : z.length ≤ 4096 := ((chkL_zero _).1 hck).1
    have HOK := hide hok
    have HSZ := hide (show szQ (natsOf z) from ⟨by rw [natsOf_length]; omega, by omega⟩)
    have HIV := hide (natsOf_iv hck)
    have HENC := hide henc
    have HD := hide hd
    have HS := hide hs
    have HL4 := hide (show (natsOf z).length ≤ 4096 by rw [natsOf_length]; exact hlen4)
    clear hno hyes hb1 hd hck henc hok hpos hg hs
    go_wp2_with fail
    refine HRD.out.mono ?_
    rintro e w2 ⟨hb2, -, hyes⟩
    obtain ⟨v5, rfl, ho5⟩ := hyes z HD.out
    have HB2 := hide (HB1.out.trans (hb2.mono HB1.out.size))
    have HS2 := hide (HS.out.below hb2)
    obtain ⟨k, hk⟩ : ∃ k, k = z.length := ⟨_, rfl⟩
    rw [← hk] at ho5 hlen4
    obtain ⟨hq1, A5, c5, rfl, hc5, hr5, hq2, hq3⟩ := own_form ho5
    have HI5 := hide (show IsI w2 A5 k z from ⟨hk, hr5⟩)
    have HKE := hide hk
    clear hq1 hq2 hq3 hr5 ho5 hb2 hyes hk
    go_wp2_with fail
    have kb := fun (wx : World) (h : CB w2.drew wx) => run_bytes_str (P := Try.prog) wx 42 9 5 a n cap b Try.underlying42 Try.underlying5 Try.underlying9 HN.out (HR.out.below (HB2.out.trans (h.below.mono HB2.out.size)))
    refine wp_region_K 18 (by kernel_rfl) (by kernel_rfl) (fun Q HQ => ?_)
    simp only [List.take_succ_cons, List.take_zero, List.map_cons, List.map_nil]
    repeat
      first
      | (refine wpS_skip (b := true) rfl (guard_mk rfl rfl) ?_)
      | (refine wpS_skip (b := false) rfl (guard_mk rfl rfl) ?_)
      | (first | apply wpS_c rfl | apply wpS_gc rfl (guard_mk rfl rfl)
         focus
           intro ev wx hC hx
           (try simp [Op.operands, Call.operands, opndS, Slot.holds] at hx)
           go_simp
           try (first | exact rfl | exact ⟨Below.refl _ _, rfl⟩)
           done)
      dsimp only [setS, List.set]
    refine wpS_gp (R := FreshRow w2.heap.size 3 k (z.map iv)) rfl (stab_fresh _ _ _ _) (guard_mk rfl rfl) ?_ ?_
    focus
      intro ev wx hC hx
      (try simp [Op.operands, Call.operands, opndS, Slot.holds] at hx)
      go_simp
      refine (all_any g (natsOf z) wx (HS2.out.below hC.below) HOK.out HSZ.out).mono ?_
      rintro e w' ⟨v, rfl, hown, hb⟩
      rw [HIV.out, natsOf_length, ← HKE.out] at hown
      exact ⟨v, rfl, hb, Nat.le_trans hC.below.size hb.size, own_base hown hC.below.size⟩
    dsimp only [setS, List.set]
    repeat
      first
      | (refine wpS_skip (b := true) rfl (guard_mk rfl rfl) ?_)
      | (refine wpS_skip (b := false) rfl (guard_mk rfl rfl) ?_)
      | (first | apply wpS_c rfl | apply wpS_gc rfl (guard_mk rfl rfl)
         focus
           intro ev wx hC hx
           (try simp [Op.operands, Call.operands, opndS, Slot.holds] at hx)
           go_simp
           try (first | exact rfl | exact ⟨Below.refl _ _, rfl⟩)
           done)
      dsimp only [setS, List.set]
    refine wpS_gc (v := .bool true) rfl (guard_mk rfl rfl) ?_ ?_
    focus
      intro ev wx hC hx
      (try simp [Op.operands, Call.operands, opndS, Slot.holds] at hx)
      obtain ⟨hx0, ⟨hx1, hx2⟩, hx3⟩ := hx
      obtain ⟨-, A7, c7, e39, hc7, hr7, -, -⟩ := own_form hx2
      have hI7 : IsI wx A7 k z := ⟨HKE.out, hr7⟩
      go_simp
      refine (same_ints A7 A5 k c7 k c5 z z wx hI7 (HI5.out.below hC.below) hc7 hc5 (by omega) (by omega)).mono ?_
      rintro e w' ⟨rfl, hb⟩
      rw [decide_eq_true rfl]
      exact ⟨rfl, hb⟩
    dsimp only [setS, List.set]
    repeat
      first
      | (refine wpS_skip (b := true) rfl (guard_mk rfl rfl) ?_)
      | (refine wpS_skip (b := false) rfl (guard_mk rfl rfl) ?_)
      | (first | apply wpS_c rfl | apply wpS_gc rfl (guard_mk rfl rfl)
         focus
           intro ev wx hC hx
           (try simp [Op.operands, Call.operands, opndS, Slot.holds] at hx)
           go_simp
           try (first | exact rfl | exact ⟨Below.refl _ _, rfl⟩)
           done)
      dsimp only [setS, List.set]
    refine wpS_gp (R := FreshRow w2.heap.size 5 n (b.map u8v)) rfl (stab_fresh _ _ _ _) (guard_mk rfl rfl) ?_ ?_
    focus
      intro ev wx hC hx
      (try simp [Op.operands, Call.operands, opndS, Slot.holds] at hx)
      go_simp
      refine (encode_any g (natsOf z) wx (HS2.out.below hC.below) HOK.out HL4.out).mono ?_
      rintro e w' ⟨v, m', rfl, -, hown, hb⟩
      rw [HENC.out] at hown
      have hm' : m' = n := by have := (own_form hown).1; rw [this, List.length_map]; exact HN.out.symm
      rw [hm'] at hown
      exact ⟨v, rfl, hb, Nat.le_trans hC.below.size hb.size, own_base hown hC.below.size⟩
    dsimp only [setS, List.set]
    refine wpS_gc rfl (guard_mk rfl rfl) (opS_str_fresh (.tmp 45) 42 9 5 rfl Try.underlying42 Try.underlying5 Try.underlying9 w2.heap.size n b rfl) ?_
    dsimp only [setS, List.set]
    repeat
      first
      | (refine wpS_skip (b := true) rfl (guard_mk rfl rfl) ?_)
      | (refine wpS_skip (b := false) rfl (guard_mk rfl rfl) ?_)
      | (first | apply wpS_c rfl | apply wpS_gc rfl (guard_mk rfl rfl)
         focus
           intro ev wx hC hx
           (try simp [Op.operands, Call.operands, opndS, Slot.holds] at hx)
           go_simp
           try (first | exact rfl | exact ⟨Below.refl _ _, rfl⟩)
           done)
      dsimp only [setS, List.set]
    refine wpS_nil (HQ _ fun w8 hC8 => ?_)
    simp only [closeS, List.drop_succ_cons, List.drop_zero, List.drop_nil]
    have HW8 := hide (HB2.out.trans (hC8.below.mono HB2.out.size))
    clear HQ kb hC8
    rintro v39 - v45 -
    go_wp2_with fail
    refine (awake_any w8).mono ?_
    rintro e w3 ⟨rfl, hb3⟩
    have HB3 := hide (HW8.out.trans (hb3.mono HW8.out.size))
    clear hb3
    go_wp2
    go_ret
    exact ⟨rfl, HB3.out⟩
end postingsDecodes
end Go.Proofs.Ytnflffhmnbjelaa
