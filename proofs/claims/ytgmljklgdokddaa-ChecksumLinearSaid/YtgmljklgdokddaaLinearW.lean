/- The walk of the law ChecksumLinear. -/
import Derived.Test.YtgmljklgdokddaaSumsW
namespace Go.Proofs.Ytgmljklgdokddaa.checksumLinear
open Go.RowKit
set_option linter.unusedVariables false
set_option linter.unusedSimpArgs false

set_option maxRecDepth 100000 in
theorem main (a0 a1 a2 : Option Addr) (len cap0 cap1 cap2 : Nat) (l0 l1 l2 : List UInt8) (w : World) (h0 : len = l0.length) (h1 : len = l1.length) (h2 : len = l2.length)
    (r0 : BRd w a0 l0) (r1 : BRd w a1 l1) (r2 : BRd w a2 l2) (hm : len ≤ 1000) :
    Calls Try.prog 4 #[.slice a0 len cap0, .slice a1 len cap1, .slice a2 len cap2] w fun e w' => e = .returned (.bool true) ∧ Below w.heap.size w w' := by
  have HL := hide (And.intro h0 (And.intro h1 h2))
  have HR := hide (And.intro r0 (And.intro r1 r2))
  clear h0 h1 h2 r0 r1 r2
  obtain ⟨i0, hi0, hz0, hz1, hz2⟩ := info_parts info_u8
  have hm' : ¬ (1000 : Int) < len := by omega
  go_enter Try.func4, Try.ntmps4
  go_wp2_with (at_make; refine wpList_make_full _ rfl (.tmp 27) (.tmp 27) 22 rfl w.heap.size 5 i0 _ 1 Try.underlying22 hi0 hz0 hz1 .i64 .i64 _ _ len rfl rfl rfl rfl (by rw [hz2]; omega) (by simp only [maxLen]; omega) (Nat.le_refl _) ?_; intro w1 hown hg)
  obtain ⟨W, hW⟩ : ∃ W, W = xorL (xorL l0 l1) l2 := ⟨_, rfl⟩
  have HX := hide hW
  have hb1 : Below w.heap.size w w1 := bl_grown (bl_refl _) hg (fun k h => by cases h)
  have hWl : len = W.length := by rw [hW, xorL_length _ _ (by rw [xorL_length _ _ (by have := HL.out; omega)]; have := HL.out; omega), xorL_length _ _ (by have := HL.out; omega)]; exact HL.out.1
  have HWL := hide hWl
  clear hW hWl hg
  go_wp2_with fail
  go_loopw [31] (fun i wr => ∃ k : Nat, k ≤ len ∧ i = .int .i64 k ∧ wr.ownsRow w.heap.size 5 1 (.slice (some ⟨w.heap.size, 0, none⟩) len len) len ((W.take k ++ List.replicate (len - k) 0).map u8v) ∧ Below w.heap.size w wr) (fun i _ => len - (intOf i).toNat)
  case atStart => exact ⟨0, Nat.zero_le _, rfl, by
    have e : (madeCells (Value.int IntKind.u8 0).cells (len * 1)).toList = ((W.take 0 ++ List.replicate (len - 0) 0).map u8v) := by
      rw [made_one _ rfl]; simp [u8v]
    rw [← e]; exact hown, hb1⟩
  case round =>
    obtain ⟨k, hk, rfl, hown, hb⟩ := hrel
    by_cases hlt : k < len
    · have hlt' : (k : Int) < len := by omega
      obtain ⟨b0, o0, c0, rfl, hb0, g0, e0⟩ := (HR.out.1.below hb).at_ (k := k) (by have := HL.out; omega)
      obtain ⟨b1, o1, c1, rfl, hb1', g1, e1⟩ := (HR.out.2.1.below hb).at_ (k := k) (by have := HL.out; omega)
      obtain ⟨b2, o2, c2, rfl, hb2, g2, e2⟩ := (HR.out.2.2.below hb).at_ (k := k) (by have := HL.out; omega)
      have HG := hide (And.intro g0 (And.intro g1 g2))
      clear g0 g1 g2
      go_wp2_with fail
      have f0 : ∀ wx, CB wr.drew wx → wx.cell? ⟨b0, o0 + k, none⟩ = some (.int .u8 (c0.toNat : Int)) := fun wx h => h.cell e0
      have f1 : ∀ wx, CB wr.drew wx → wx.cell? ⟨b1, o1 + k, none⟩ = some (.int .u8 (c1.toNat : Int)) := fun wx h => h.cell e1
      have f2 : ∀ wx, CB wr.drew wx → wx.cell? ⟨b2, o2 + k, none⟩ = some (.int .u8 (c2.toNat : Int)) := fun wx h => h.cell e2
      have x1 := u8_bxor c0 c1
      generalize hd : c0 ^^^ c1 = d at x1
      have x2 := u8_bxor d c2
      generalize he : d ^^^ c2 = e at x2
      have HD := hide (And.intro hd he)
      clear hd he
      refine wp_region_K 17 (by kernel_rfl) (by kernel_rfl) (fun Q HQ => ?_)
      simp only [List.take_succ_cons, List.take_zero, List.map_cons, List.map_nil]
      repeat
        apply wpS_c rfl
        focus
          intro ev wx hC hx
          (try simp [Op.operands, Call.operands, opndS, Slot.holds] at hx)
          go_simp
          try (first | exact rfl | exact ⟨Below.refl _ _, rfl⟩)
          done
        dsimp only [setS, List.set]
      refine wpS_nil (HQ _ fun w3 hC3 => ?_)
      simp only [closeS, List.drop_succ_cons, List.drop_zero]
      clear HQ f0 f1 f2
      have own3 := own_below hown hC3.below
      obtain ⟨⟨v, _, hcell⟩, hfz⟩ := own_at own3 hlt
      go_wp2
      go_roundw
      case rel => exact ⟨k + 1, by omega, by go_num, by
        have := own_set own3 hlt (u8v e)
        have hg : W[k]? = some e := by
          rw [HX.out, ← HD.out.2, ← HD.out.1]
          exact xorL_get (xorL_get HG.out.1 HG.out.2.1) HG.out.2.2
        rwa [fill_step W len k e HWL.out hg] at this, bl_set (bl_trans hb hC3.below) (Nat.le_refl _) _⟩
      case measure => simp [intOf]; omega
    · obtain rfl : k = len := by omega
      have hX := own_form hown
      obtain ⟨hX1, a, c, hv, hX2, hrd, hX3⟩ := hX
      clear hX1 hX2 hX3
      injection hv with hva hvn hvc
      have HRD : Hid (BRd wr (some ⟨w.heap.size, 0, none⟩) W) := by
        rw [hva]
        have e : (W.take k ++ List.replicate (k - k) 0) = W := by rw [HWL.out]; simp
        rw [e] at hrd
        exact hrd
      clear hva hvn hvc hrd hown
      go_wp2_with fail
      refine (sum_any _ _ _ W _ HWL.out (by omega) HRD.out).mono ?_
      rintro e w2 ⟨rfl, hb2⟩
      go_wp2_with fail
      refine (sum_any _ _ _ l0 _ HL.out.1 (by omega) ((HR.out.1.below hb).below hb2)).mono ?_
      rintro e w3 ⟨rfl, hb3⟩
      go_wp2_with fail
      refine (sum_any _ _ _ l1 _ HL.out.2.1 (by omega) (((HR.out.2.1.below hb).below hb2).below hb3)).mono ?_
      rintro e w4 ⟨rfl, hb4⟩
      go_wp2_with fail
      refine (sum_any _ _ _ l2 _ HL.out.2.2 (by omega) ((((HR.out.2.2.below hb).below hb2).below hb3).below hb4)).mono ?_
      rintro e w5 ⟨rfl, hb5⟩
      have x1 := bv_xor (crc l0) (crc l1)
      generalize hd : crc l0 ^^^ crc l1 = d at x1
      have x2 := bv_xor d (crc l2)
      have x3 : d ^^^ crc l2 = crc W := by
        rw [← hd, HX.out]; exact (crc_linear l0 l1 l2 (by have := HL.out; omega) (by have := HL.out; omega)).symm
      rw [x3] at x2
      clear hd x3
      go_wp2_with fail
      refine (awake_any _).mono ?_
      rintro e w6 ⟨rfl, hb6⟩
      go_wp2_with fail
      go_ret
      exact ⟨rfl, bl_trans hb (bl_trans hb2 (bl_trans hb3 (bl_trans hb4 (bl_trans hb5 hb6))))⟩

theorem walk (a0 : Option Addr) (len0 cap0 : Nat) (z0 : List Int) (a1 : Option Addr) (len1 cap1 : Nat) (z1 : List Int) (a2 : Option Addr) (len2 cap2 : Nat) (z2 : List Int) (w : World)
    (w0 : IsRow .u8 w a0 len0 cap0 z0) (w1 : IsRow .u8 w a1 len1 cap1 z1) (w2 : IsRow .u8 w a2 len2 cap2 z2) :
    Calls Try.prog 4 #[.slice a0 len0 cap0, .slice a1 len1 cap1, .slice a2 len2 cap2] w fun e w' => e = .returned (.bool true) ∧ Below w.heap.size w w' := by
  obtain ⟨l0, hl0, hr0, hc0, hm0, hn0⟩ := w0.bytes
  obtain ⟨l1, hl1, hr1, hc1, hm1, hn1⟩ := w1.bytes
  obtain ⟨l2, hl2, hr2, hc2, hm2, hn2⟩ := w2.bytes
  unfold maxLen at hm0 hm1 hm2
  by_cases h1 : 1000 < len0
  · clear hl0 hl1 hl2 hr0 hr1 hr2 hn0 hn1 hn2 w0 w1 w2
    have h1' : (1000 : Int) < len0 := by omega
    go_enter Try.func4, Try.ntmps4
    go_wp2
    go_ret
    exact ⟨rfl, bl_refl _⟩
  · by_cases h2 : len0 = len1
    · subst h2
      by_cases h3 : len0 = len2
      · subst h3
        exact main a0 a1 a2 len0 cap0 cap1 cap2 l0 l1 l2 w hl0.symm hl1.symm hl2.symm hr0 hr1 hr2 (by omega)
      · have h3' : ((len0 : Int) != (len2 : Int)) = true := by rw [bne_iff_ne]; omega
        have h1' : ¬ (1000 : Int) < len0 := by omega
        clear hl0 hl1 hl2 hr0 hr1 hr2 hn0 hn1 hn2 w0 w1 w2 h1 h3
        go_enter Try.func4, Try.ntmps4
        go_wp2
        go_ret
        exact ⟨rfl, bl_refl _⟩
    · have h3' : ((len0 : Int) != (len1 : Int)) = true := by rw [bne_iff_ne]; omega
      have h1' : ¬ (1000 : Int) < len0 := by omega
      clear hl0 hl1 hl2 hr0 hr1 hr2 hn0 hn1 hn2 w0 w1 w2 h1 h2
      go_enter Try.func4, Try.ntmps4
      go_wp2
      go_ret
      exact ⟨rfl, bl_refl _⟩
end Go.Proofs.Ytgmljklgdokddaa.checksumLinear
