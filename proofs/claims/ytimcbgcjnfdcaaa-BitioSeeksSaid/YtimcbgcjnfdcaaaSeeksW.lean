/- The walk of the law BitioSeeks. -/
import Derived.Test.YtimcbgcjnfdcaaaReadsW
namespace Go.Proofs.Ytimcbgcjnfdcaaa
open Go.RowKit
set_option linter.unusedVariables false
set_option linter.unusedSimpArgs false
set_option maxRecDepth 100000 in
theorem seek_ok (base g : Nat) (L : List Bool) (pos q : Nat) (x : Int) (w : World) (hs : RdS w base g L pos) (hx : x = q) (hq : q ≤ L.length) :
    Calls Try.prog 33 #[.pointer (some ⟨g, 0, none⟩), .int .i64 x] w fun e w' => e = .returned (.int .i64 0) ∧ RStep base g L w q w' := by
  subst hx
  have HST := hide (RStep.set hs hq)
  obtain ⟨c1, c2, cf, hp, hL⟩ := cells_of_rd hs
  obtain ⟨N, hN⟩ : ∃ N, N = L.length := ⟨_, rfl⟩
  rw [← hN] at c1 hp hL hq
  clear hN hs
  go_enter Try.func33, Try.ntmps33
  go_wp2
  go_ret
  exact ⟨rfl, HST.out⟩
set_option maxRecDepth 100000 in
theorem seek_bad (base g : Nat) (L : List Bool) (pos : Nat) (x : Int) (w : World) (hs : RdS w base g L pos) (hx : x < 0 ∨ (L.length : Int) < x) :
    Calls Try.prog 33 #[.pointer (some ⟨g, 0, none⟩), .int .i64 x] w fun e w' => e = .returned (.int .i64 1) ∧ w = w' := by
  obtain ⟨c1, c2, cf, hp, hL⟩ := cells_of_rd hs
  obtain ⟨N, hN⟩ : ∃ N, N = L.length := ⟨_, rfl⟩
  rw [← hN] at c1 hp hL hx
  clear hN hs
  by_cases h1 : x < 0
  · clear hx
    go_enter Try.func33, Try.ntmps33
    go_wp2
    go_ret
    exact ⟨rfl, rfl⟩
  · have h2 : (N : Int) < x := by omega
    clear hx
    go_enter Try.func33, Try.ntmps33
    go_wp2
    go_ret
    exact ⟨rfl, rfl⟩
namespace bitioSeeks
set_option maxHeartbeats 2000000 in
set_option maxRecDepth 100000 in
theorem walk (a : Option Addr) (len cap : Nat) (z0 : List Int) (x : Int) (k v n : Int) (w : World) (w0 : IsRow .u8 w a len cap z0) (w1 : (Lit.int .i64 x).wf = true) :
    Calls Try.prog 11 #[.slice a len cap, .int .i64 x, .agg #[.int .i64 k, .int .u64 v, .int .i64 n]] w fun e w' => e = .returned (.bool true) ∧ Below w.heap.size w w' := by
  obtain ⟨p, hl, hr, hc, hm, hn⟩ := w0.bytes
  have HL := hide hl.symm
  have HR := hide hr
  unfold maxLen at hm
  clear hl hr hn w0 w1
  go_enter Try.func11, Try.ntmps11
  by_cases h7 : 700 < len
  · go_wp2
    go_ret
    exact ⟨rfl, bl_alloc (bl_refl w) _⟩
  have hlen : len ≤ 700 := by omega
  obtain ⟨W, hW⟩ : ∃ W, W = w.alloc (.cells #[.int .i64 k, .int .u64 v, .int .i64 n] 44) := ⟨_, rfl⟩
  have hbW : Below w.heap.size w W := by rw [hW]; exact bl_alloc (bl_refl w) _
  have hwW : w.heap.size < W.heap.size := by rw [hW]; simp
  have hqW : W.heap[w.heap.size]? = some (.cells #[.int .i64 k, .int .u64 v, .int .i64 n] 44 (0, 0)) := by rw [hW]; exact heap_alloc_new w _
  have HQW := hide hqW
  clear hqW
  go_wp2_with fail
  rw [← hW]
  obtain ⟨nn, hnn⟩ : ∃ nn, nn = 8 * len := ⟨_, rfl⟩
  have en : 8 * (len : Int) = (nn : Int) := by omega
  have hn8 : nn ≤ 8 * len := by omega
  have hn56 : nn ≤ 5600 := by omega
  clear hnn
  refine (newreader_any a len cap p _ W HL.out hc (by omega) (HR.out.below hbW) (by omega)).mono ?_
  rintro e w1 ⟨g, rfl, hgw, hrs, hb1⟩
  rw [en, Int.toNat_natCast] at hrs
  obtain ⟨L, hL⟩ : ∃ L, L = unpackL p nn := ⟨_, rfl⟩
  have hLn : L.length = nn := by rw [hL, unpackL_length]
  rw [← hL] at hrs
  have HRS := hide hrs
  have HLL := hide hL
  have HLN := hide hLn
  have hgl := hrs.lt
  have hb01 := hbW.trans (hb1.mono hbW.size)
  clear hrs hL hLn hW
  by_cases hbad : x < 0 ∨ (nn : Int) < x
  · go_wp2_with fail
    refine (seek_bad W.heap.size g L 0 x w1 HRS.out (by rw [HLN.out]; exact hbad)).mono ?_
    rintro e w' ⟨rfl, rfl⟩
    by_cases hneg : x < 0
    · go_wp2_with fail
      refine (rpos_any W.heap.size g L 0 w1 HRS.out).mono ?_
      rintro e w' ⟨rfl, rfl⟩
      go_wp2_with fail
      refine (awake_any _).mono ?_
      rintro e w6 ⟨rfl, hb6⟩
      go_wp2_with fail
      go_ret
      exact ⟨rfl, bl_trans hb01 hb6⟩
    · have h8 : (nn : Int) < x := by omega
      clear hbad
      go_wp2_with fail
      refine (rpos_any W.heap.size g L 0 w1 HRS.out).mono ?_
      rintro e w' ⟨rfl, rfl⟩
      go_wp2_with fail
      refine (awake_any _).mono ?_
      rintro e w6 ⟨rfl, hb6⟩
      go_wp2_with fail
      go_ret
      exact ⟨rfl, bl_trans hb01 hb6⟩
  obtain ⟨q, rfl⟩ := Int.eq_ofNat_of_zero_le (show 0 ≤ x by omega)
  have hq : q ≤ nn := by omega
  have hq2 : ¬ (nn : Int) < q := by omega
  go_wp2_with fail
  refine (seek_ok W.heap.size g L 0 q q w1 HRS.out rfl (by rw [HLN.out]; exact hq)).mono ?_
  rintro e w2 ⟨rfl, hst⟩
  have HS2 := hide hst.1
  have hbl2 : Below W.heap.size w1 w2 := hst.below hgw
  have hb02 : Below w.heap.size w w2 := hb01.trans (hbl2.mono hbW.size)
  have HQ2 := hide ((hst.2.2.2.2.2 _ (by omega)).trans ((hb1.block _ hwW).trans HQW.out) : w2.heap[w.heap.size]? = some (.cells #[.int .i64 k, .int .u64 v, .int .i64 n] 44 (0, 0)))
  have d0 : w2.cell? ⟨w.heap.size, 0, none⟩ = some (.int .i64 k) := cell_of_row w2 _ 0 _ _ _ HQ2.out
  have d1 : w2.cell? ⟨w.heap.size, 1, none⟩ = some (.int .u64 v) := cell_of_row w2 _ 1 _ _ _ HQ2.out
  have d2 : w2.cell? ⟨w.heap.size, 2, none⟩ = some (.int .i64 n) := cell_of_row w2 _ 2 _ _ _ HQ2.out
  clear hst hbad hbl2
  go_wp2_with fail
  refine wp_region_K 15 (by kernel_rfl) (by kernel_rfl) (fun Q HQ => ?_)
  simp only [List.take_succ_cons, List.take_zero, List.map_cons, List.map_nil]
  have f0 : ∀ wx, CB w2.drew wx → wx.cell? ⟨w.heap.size, 0, none⟩ = some (.int .i64 k) := fun wx h => h.cell d0
  have f1 : ∀ wx, CB w2.drew wx → wx.cell? ⟨w.heap.size, 1, none⟩ = some (.int .u64 v) := fun wx h => h.cell d1
  have f2 : ∀ wx, CB w2.drew wx → wx.cell? ⟨w.heap.size, 2, none⟩ = some (.int .i64 n) := fun wx h => h.cell d2
  have ew : IntKind.i64.wrap (nn : Int) = (nn : Int) := by rw [IntKind.wrap_i64]; omega
  repeat
    first | apply wpS_c rfl | apply wpS_gc rfl (guard_mk rfl rfl)
    focus
      intro ev wx hC hx
      (try simp [Op.operands, Call.operands, opndS, Slot.holds] at hx)
      go_simp
      try (first | exact rfl | exact ⟨Below.refl _ _, rfl⟩)
      done
    dsimp only [setS, List.set]
  refine wpS_p (R := FreshRow w.heap.size 4 nn (L.map Value.bool)) rfl (stab_fresh _ _ _ _) ?_ ?_
  focus
    intro ev wx hC hx
    (try simp [Op.operands, Call.operands, opndS, Slot.holds] at hx)
    go_simp
    refine (unpack_ref a len cap p nn nn wx rfl HL.out (by omega) (by omega) ((HR.out.below hb02).below hC.below)).mono ?_
    rintro e w' ⟨r, rfl, hown, hb⟩
    rw [← HLL.out] at hown
    exact ⟨r, rfl, hb, Nat.le_trans hb02.size (Nat.le_trans hC.below.size hb.size), own_base hown (Nat.le_trans hb02.size hC.below.size)⟩
  dsimp only [setS, List.set]
  repeat
    first | apply wpS_c rfl | apply wpS_gc rfl (guard_mk rfl rfl)
    focus
      intro ev wx hC hx
      (try simp [Op.operands, Call.operands, opndS, Slot.holds] at hx)
      go_simp
      try (first | exact rfl | exact ⟨Below.refl _ _, rfl⟩)
      done
    dsimp only [setS, List.set]
  obtain ⟨⟨r1, r2, r3⟩, hR⟩ : ∃ R, R = readM L q k n := ⟨_, rfl⟩
  have HRR := hide hR
  clear hR
  refine wpS_c (v := .tuple #[.int .u64 (r1 : Int), .int .i64 (r2 : Int), .int .i64 (r3 : Int)]) rfl ?_ ?_
  focus
    intro ev wx hC hx
    (try simp [Op.operands, Call.operands, opndS, Slot.holds] at hx)
    have hfr : FreshRow w.heap.size 4 nn (L.map Value.bool) (ev (.tmp 60)) wx := by first | exact hx.1 | exact hx.2.1
    obtain ⟨hx0, hown⟩ := hfr
    obtain ⟨hx1, A9, c9, hv, hc9, hrd, hx2⟩ := own_form hown
    have HRD := hide hrd
    clear hrd hown hx0 hx1 hx2
    go_simp
    refine (read_ref A9 nn c9 L q k v n wx HLN.out.symm hc9 (by omega) HRD.out hq).mono ?_
    rintro e w' ⟨rfl, hb⟩
    exact ⟨by rw [← HRR.out]; rfl, hb⟩
  dsimp only [setS, List.set]
  repeat
    first | apply wpS_c rfl | apply wpS_gc rfl (guard_mk rfl rfl)
    focus
      intro ev wx hC hx
      (try simp [Op.operands, Call.operands, opndS, Slot.holds] at hx)
      go_simp
      try (first | exact rfl | exact ⟨Below.refl _ _, rfl⟩)
      done
    dsimp only [setS, List.set]
  refine wpS_nil (HQ _ fun w3 hC3 => ?_)
  simp only [closeS, List.drop_succ_cons, List.drop_zero, List.drop_nil]
  clear HQ f0 f1 f2
  rintro v0 -
  have hb23 := hC3.below
  have HS3 := hide (HS2.out.below hb23)
  have e0 : w3.cell? ⟨w.heap.size, 0, none⟩ = some (.int .i64 k) := (hb23.cell (lt_heap d0)).trans d0
  have e1 : w3.cell? ⟨w.heap.size, 1, none⟩ = some (.int .u64 v) := (hb23.cell (lt_heap d1)).trans d1
  have e2 : w3.cell? ⟨w.heap.size, 2, none⟩ = some (.int .i64 n) := (hb23.cell (lt_heap d2)).trans d2
  have hb03 : Below w.heap.size w w3 := hb02.trans (hb23.mono hb02.size)
  have hWs : W.heap.size ≤ w3.heap.size := Nat.le_of_lt (Nat.lt_of_le_of_lt hgw HS3.out.lt)
  clear d0 d1 d2 hC3
  go_wp2_with fail
  refine (rpos_any W.heap.size g L q w3 HS3.out).mono ?_
  rintro e w' ⟨rfl, rfl⟩
  go_wp2_with fail
  refine (lread_any W.heap.size g L q k v n w3 HS3.out).mono ?_
  rintro e w4 ⟨rfl, hgo⟩
  rw [← HRR.out] at hgo ⊢
  unfold tup2
  simp only [] at hgo ⊢
  have HS4 := hide hgo.1
  have hb04 : Below w.heap.size w w4 := hb03.trans ((hgo.below hgw hWs).mono hbW.size)
  clear hgo e0 e1 e2
  go_wp2_with fail
  refine (rpos_any W.heap.size g L r2 w4 HS4.out).mono ?_
  rintro e w' ⟨rfl, rfl⟩
  go_wp2_with fail
  refine (seek_ok W.heap.size g L r2 0 0 w4 HS4.out rfl (Nat.zero_le _)).mono ?_
  rintro e w5 ⟨rfl, hst⟩
  have HS5 := hide hst.1
  have hb05 : Below w.heap.size w w5 := hb04.trans ((hst.below hgw).mono hbW.size)
  clear hst
  go_wp2_with fail
  refine (rpos_any W.heap.size g L 0 w5 HS5.out).mono ?_
  rintro e w' ⟨rfl, rfl⟩
  go_wp2_with fail
  refine (awake_any _).mono ?_
  rintro e w6 ⟨rfl, hb6⟩
  go_wp2_with fail
  go_ret
  exact ⟨rfl, bl_trans hb05 hb6⟩
end bitioSeeks
end Go.Proofs.Ytimcbgcjnfdcaaa
