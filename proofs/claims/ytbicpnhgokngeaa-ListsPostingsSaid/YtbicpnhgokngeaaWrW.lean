/- The walks of the Writer's methods. -/
import Derived.Test.YtbicpnhgokngeaaLenW
namespace Go.Proofs.Ytbicpnhgokngeaa
open Go.RowKit
set_option linter.unusedVariables false
set_option linter.unusedSimpArgs false

theorem WStep.next {base g : Nat} {r : Option Nat} {w w1 : World} {l1 : List Bool} (h : WStep base g r w l1 w1) (hbs : base ≤ w.heap.size) :
    ∃ r1, WrS w1 base g r1 l1 ∧ base ≤ w1.heap.size ∧ ∀ l2 w2, WStep base g r1 w1 l2 w2 → WStep base g r w l2 w2 := by
  obtain ⟨r1, hs, hc, hr⟩ := h
  exact ⟨r1, hs, Nat.le_trans hbs hc.size, fun l2 w2 h2 => WStep.trans hc hr h2⟩
set_option maxRecDepth 100000 in
theorem wgamma_any (base g : Nat) (r : Option Nat) (l : List Bool) (v : Int) (vn : Nat) (w : World) (hv : v = vn) (hvb : vn < 2 ^ 64) (hw : WrS w base g r l) (hl : l.length < 80000000) (hbs : base ≤ w.heap.size) :
    Calls Try.prog 24 #[.pointer (some ⟨g, 0, none⟩), .int .u64 v] w fun e w' => e = .returned (.int .i64 (cod (wGamma vn))) ∧ WStep base g r w (l ++ (wGamma vn).getD []) w' := by
  have HW := hide hw
  have HB := hide hvb
  subst hv
  have HL := hide hl
  clear hw hvb hl
  go_enter Try.func24, Try.ntmps24
  by_cases h1 : vn = 0
  · subst h1
    go_wp2
    go_ret
    exact ⟨rfl, by simpa [wGamma] using WStep.refl HW.out⟩
  have HYES := hide (show wGamma vn = some (gamB vn) from if_neg h1)
  have t1 : ((vn : Int) == 0) = false := by rw [beq_eq_false_iff_ne]; omega
  go_wp2_with fail
  refine (len64_any vn vn _ rfl HB.out).mono ?_
  rintro e w' ⟨rfl, rfl⟩
  obtain ⟨b, hb⟩ : ∃ b, b + 1 = Lib.bitLen vn := ⟨Lib.bitLen (vn / 2), (bl_pos vn h1 HB.out).symm⟩
  have hb64 : b + 1 ≤ 64 := by rw [hb]; exact bl_64 vn HB.out
  rw [← hb]
  have HBL := hide hb
  clear hb h1
  have e1 : ((b + 1 : Nat) : Int) - 1 = b := by omega
  go_wp2_with fail
  refine (low_any base g r l _ _ 0 b w rfl (by first | rfl | exact e1) (by decide) (by omega) HW.out (Nat.lt_trans HL.out (by omega)) hbs).mono ?_
  rintro e w1 ⟨rfl, hst⟩
  have HST := hide hst
  clear hst
  obtain ⟨r1, hs1, hb1, hn⟩ := HST.out.next hbs
  have HS1 := hide hs1
  have HN := hide hn
  clear hs1 hn
  have hll : (l ++ lowB 0 b).length < 90000000 := by
      have := HL.out
      simp [lowB_length]; omega
  have HLL := hide hll
  clear hll
  go_wp2_with fail
  refine (low_any base g r1 (l ++ lowB 0 b) _ _ vn (b + 1) w1 rfl (by simp) HB.out hb64 HS1.out HLL.out hb1).mono ?_
  rintro e w2 ⟨rfl, hst⟩
  have HST2 := hide hst
  clear hst
  go_wp2
  go_ret
  have e := HYES.out
  rw [e]
  refine ⟨rfl, ?_⟩
  have := HN.out _ _ HST2.out
  rw [List.append_assoc, lowB_zero, HBL.out] at this
  simp only [Option.getD, gamB]
  rw [show Lib.bitLen vn - 1 = b by have := HBL.out; omega]
  exact this
theorem gamB_length (v : Nat) (h : Lib.bitLen v ≤ 64) : (gamB v).length ≤ 200 := by simp [gamB, lowB_length]; omega
set_option maxRecDepth 100000 in
theorem wdelta_any (base g : Nat) (r : Option Nat) (l : List Bool) (v : Int) (vn : Nat) (w : World) (hv : v = vn) (hvb : vn < 2 ^ 64) (hw : WrS w base g r l) (hl : l.length < 70000000) (hbs : base ≤ w.heap.size) :
    Calls Try.prog 13 #[.pointer (some ⟨g, 0, none⟩), .int .u64 v] w fun e w' => e = .returned (.int .i64 (cod (wDelta vn))) ∧ WStep base g r w (l ++ (wDelta vn).getD []) w' := by
  have HW := hide hw
  have HB := hide hvb
  subst hv
  have HL := hide hl
  clear hw hvb hl
  go_enter Try.func13, Try.ntmps13
  by_cases h1 : vn = 0
  · subst h1
    go_wp2
    go_ret
    exact ⟨rfl, by simpa [wDelta] using WStep.refl HW.out⟩
  have HYES := hide (show wDelta vn = some (gamB (Lib.bitLen vn) ++ lowB vn (Lib.bitLen vn - 1)) from if_neg h1)
  have t1 : ((vn : Int) == 0) = false := by rw [beq_eq_false_iff_ne]; omega
  go_wp2_with fail
  refine (len64_any vn vn _ rfl HB.out).mono ?_
  rintro e w' ⟨rfl, rfl⟩
  obtain ⟨b, hb⟩ : ∃ b, b + 1 = Lib.bitLen vn := ⟨Lib.bitLen (vn / 2), (bl_pos vn h1 HB.out).symm⟩
  have hb64 : b + 1 ≤ 64 := by rw [hb]; exact bl_64 vn HB.out
  rw [← hb]
  have HBL := hide hb
  clear hb h1
  have e1 : ((b + 1 : Nat) : Int) - 1 = b := by omega
  go_wp2_with fail
  refine (wgamma_any base g r l _ (b + 1) w (by simp) (by omega) HW.out (Nat.lt_trans HL.out (by omega)) hbs).mono ?_
  rintro e w1 ⟨rfl, hst⟩
  have HST := hide hst
  clear hst
  obtain ⟨r1, hs1, hb1, hn⟩ := HST.out.next hbs
  have ew : wGamma (b + 1) = some (gamB (b + 1)) := if_neg (by omega)
  rw [ew] at hs1
  have HS1 := hide hs1
  have HN := hide hn
  have HEW := hide ew
  clear hs1 hn ew
  have hll : (l ++ gamB (b + 1)).length < 90000000 := by
      have := HL.out
      have := gamB_length (b + 1) ((bl_64 _ (by omega)))
      simp; omega
  have HLL := hide hll
  clear hll
  go_wp2_with fail
  refine (low_any base g r1 (l ++ gamB (b + 1)) _ _ vn b w1 rfl (by simp) HB.out (by omega) HS1.out HLL.out hb1).mono ?_
  rintro e w2 ⟨rfl, hst⟩
  have HST2 := hide hst
  clear hst
  go_wp2
  go_ret
  have e := HYES.out
  rw [e]
  refine ⟨rfl, ?_⟩
  have := HN.out _ _ HST2.out
  rw [List.append_assoc, HBL.out] at this
  simp only [Option.getD]
  rw [show Lib.bitLen vn - 1 = b by have := HBL.out; omega]
  exact this
set_option maxRecDepth 100000 in
theorem wlen_any (base g : Nat) (r : Option Nat) (l : List Bool) (w : World) (hw : WrS w base g r l) (hl : l.length < 1000000000) :
    Calls Try.prog 12 #[.pointer (some ⟨g, 0, none⟩)] w fun e w' => e = .returned (.int .i64 (l.length : Int)) ∧ w = w' := by
  obtain ⟨v, hg, hb, ho, hr⟩ := hw
  have c1 : w.cell? ⟨g, 1, none⟩ = some (.int .i64 (l.length : Int)) := cell_of_row w g 1 _ _ _ hg
  have HO := hide ho
  have HG := hide hg
  clear ho hg hr hl
  go_enter Try.func12, Try.ntmps12
  go_wp2
  go_ret
  exact ⟨rfl, rfl⟩
set_option maxRecDepth 100000 in
theorem wbytes_any (base g : Nat) (r : Option Nat) (l : List Bool) (w : World) (hw : WrS w base g r l) (hl : l.length < 100000000) (hbs : base ≤ w.heap.size) :
    Calls Try.prog 14 #[.pointer (some ⟨g, 0, none⟩)] w fun e w' => ∃ v, e = .returned v ∧ w'.ownsRow w.heap.size 5 1 v (packL l).length ((packL l).map u8v) ∧ Below w.heap.size w w' := by
  obtain ⟨v, hg, hb, ho, hr⟩ := hw
  have c0 : w.cell? ⟨g, 0, none⟩ = some v := cell_of_row w g 0 _ _ _ hg
  have HO := hide ho
  have HG := hide hg
  clear ho hg hr
  obtain ⟨i0, hi0, hz0, hz1, hz2⟩ := info_parts info_u8
  obtain ⟨hlen, A, c, rfl, _, hrd, _⟩ := own_form HO.out
  have HRD := hide hrd
  have HLEN := hide (show (packL l).length ≤ 100000000 by rw [packL_length]; unfold nby; omega)
  clear hlen hrd hl
  have c0' : (w.alloc (.cells #[] 5)).cell? ⟨g, 0, none⟩ = some (.slice A (packL l).length c) := by
    rw [(bl_alloc (bl_refl w) _).cell (lt_heap c0)]; exact c0
  clear c0
  go_enter Try.func14, Try.ntmps14
  go_wp2_with (at_builtin; refine wpList_append_rd _ rfl (.tmp 3) (.tmp 8) 36 rfl w.heap.size 5 i0 _ 1 1 Try.underlying36 hi0 hz0 hz1 hz2 rfl (by omega) (.slice (some ⟨w.heap.size, 0, none⟩) 0 0) 0 [] rfl (own_empty (Nat.le_refl _) (heap_alloc_new w _)) A (packL l).length c ((packL l).map u8v) rfl (by simp) (HRD.out.alloc _) (u8s_one _) (by have := HLEN.out; simp only [maxLen]; omega) (by have := HLEN.out; omega) (by simp) ?_; intro v2 w2 ho2 hg2 hat2)
  go_ret
  rw [Nat.zero_add, List.nil_append] at ho2
  exact ⟨v2, rfl, ho2, bl_grown (bl_alloc (bl_refl w) _) hg2 (fun k h => by simp [Value.ownBlock] at h; omega)⟩
set_option maxRecDepth 100000 in
theorem newwriter_any (w : World) :
    Calls Try.prog 11 #[] w fun e w' => e = .returned (.pointer (some ⟨w.heap.size, 0, none⟩)) ∧ WrS w' w.heap.size w.heap.size none [] ∧ Below w.heap.size w w' := by
  go_enter Try.func11, Try.ntmps11
  go_wp2_with fail
  go_ret
  exact ⟨rfl, ⟨_, heap_alloc_new w _, Nat.le_refl _, ⟨rfl, .inl ⟨rfl, rfl⟩⟩, rfl⟩, bl_alloc (bl_refl w) _⟩
end Go.Proofs.Ytbicpnhgokngeaa
