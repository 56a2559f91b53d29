/- The document's examples of chapter 39. -/
import Derived.Test.YtjpmfiicbokdcaaFbW
import Derived.Test.YtjpmfiicbokdcaaDzW
namespace Go.Proofs.Ytjpmfiicbokdcaa
open Go.RowKit
set_option linter.unusedVariables false
set_option linter.unusedSimpArgs false
def exOps : List DOp := [(1, [97], [], []), (2, [97], [], [120, 121]), (3, [97], [], []), (6, [], [], []), (2, [97], [], [122, 119])]
def exD : Dsk := ⟨[([120, 121, 122, 119], 2)], [([97], 0)], [([97], 0)], []⟩
theorem ex_all : allM .nil exOps = (exD, 0) := by decide
theorem ex_c1 : readM (crashM exD [0, 1, 1]) [97] = ([120, 121, 0], 0) := by decide
theorem ex_c2 : readM (crashM exD [0, 2, 0]) [97] = ([120, 121, 122, 119], 0) := by decide
theorem ex_c3 : readM (crashM exD []) [97] = ([120, 121], 0) := by decide
set_option maxHeartbeats 4000000 in
set_option maxRecDepth 100000 in
theorem example_any (w : World) : Calls Try.prog 47 #[] w fun e w' => ∃ u, e = .returned u ∧ IsD w' u exD ∧ Below w.heap.size w w' := by
  obtain ⟨W2, hW2⟩ : ∃ W2, W2 = (w.alloc (.cells [.slice none 0 0, .slice none 0 0, .slice none 0 0, .slice none 0 0].toArray 27)).alloc (.cells (exOps.flatMap encO).toArray 48) := ⟨_, rfl⟩
  have B0 := hide (show Blk W2 w.heap.size [.slice none 0 0, .slice none 0 0, .slice none 0 0, .slice none 0 0] 27 by rw [hW2]; exact (Blk.new w _ _).alloc _)
  have BO := hide (show Blk W2 (w.heap.size + 1) (exOps.flatMap encO) 48 by rw [hW2]; exact Blk.newG (by simp) _ _)
  have HB2 := hide (show Below w.heap.size w W2 by rw [hW2]; exact bl_alloc (bl_alloc (bl_refl w) _) _)
  have HAP := hide (rapplyall_any nilD .nil (some ⟨w.heap.size + 1, 0, none⟩) 5 5 exOps 0 W2 (isD_nil _) ⟨rfl, BO.out.rd⟩ ⟨Nat.le_refl _, Nat.le_refl _, Nat.le_refl _, Nat.le_refl _⟩ (by decide) (by decide))
  rw [ex_all] at HAP
  have HW2 := hide hW2.symm
  unfold nilD at HAP
  clear hW2
  go_enter Try.func47, Try.ntmps47
  go_wp2_with fail
  have hap := HAP.out
  rw [← HW2.out] at hap
  refine hap.mono ?_
  rintro e w3 ⟨u, rfl, hu, hb⟩
  have hb : Below W2.heap.size W2 w3 := by rw [← HW2.out]; exact hb
  clear hap HW2
  obtain ⟨a1, n1, c1, a2, n2, c2, a3, n3, c3, a4, n4, c4, rfl⟩ := hu.four
  have HU := hide hu
  have C0 := hide (B0.out.below hb)
  have HB3 := hide (HB2.out.trans (hb.mono HB2.out.size))
  clear hu hb B0 HB2 HAP
  have y0 : w3.cell? ⟨w.heap.size, 0, none⟩ = some _ := C0.out.cell rfl
  have y1 : w3.cell? ⟨w.heap.size, 1, none⟩ = some _ := C0.out.cell rfl
  have y2 : w3.cell? ⟨w.heap.size, 2, none⟩ = some _ := C0.out.cell rfl
  have y3 : w3.cell? ⟨w.heap.size, 3, none⟩ = some _ := C0.out.cell rfl
  have l0 := C0.out.lt
  have f0 := C0.out.fr
  go_wp2
  refine bodyPost_ret (results_cell_row Try.results47 _ _ w.heap.size 27 _ (0, 0) _ rfl ((C0.out.set4 _ _ _ _).alloc _) Try.underlying27 rfl (by kernel_rfl)) rfl ?_
  exact ⟨_, rfl, (HU.out.set4 C0.out (allSl4 _ _ _ _ _ _ _ _ _ _ _ _) rfl rfl rfl).below (bl_alloc (bl_refl _) _), bl_alloc (bl_set4 HB3.out (Nat.le_refl _) _ _ _ _) _⟩
theorem crash_szK {K : Nat} {d : Dsk} (h : szK K d) (ch : List Int) : szK (2 * K) (crashM d ch) := by
  unfold crashM
  split
  · rename_i hv
    obtain ⟨l, hl, hlr, hln⟩ := pref_ok hv (prefM d ch)
    rw [hl]
    have h1 := kept_le l (cutK ch d.inodes.length d.inodes) 0
    rw [cutK_len] at h1
    obtain ⟨k1, k2, k3, k4⟩ := h
    refine ⟨?_, ?_, ?_, ?_⟩ <;> simp [setM, movM] <;> omega
  · exact ⟨Nat.zero_le _, Nat.zero_le _, Nat.zero_le _, Nat.zero_le _⟩
theorem exK : szK 10 exD := by unfold szK exD; decide
theorem exK4 : szK 40000 exD := by unfold szK exD; decide
theorem exC (ch : List Int) : szD (crashM exD ch) := (crash_szK exK ch).szD (by decide)
set_option maxHeartbeats 4000000 in
set_option maxRecDepth 100000 in
theorem known_any (w : World) : Calls Try.prog 19 #[] w fun e w' => e = .returned (.bool true) ∧ Below w.heap.size w w' := by
  go_enter Try.func19, Try.ntmps19
  go_wp2_with fail
  refine (example_any w).mono ?_
  rintro e w1 ⟨u1, rfl, hu1, hb1⟩
  have HU1 := hide hu1
  have HB1 := hide (id hb1)
  clear hu1 hb1
  go_wp2_with fail
  refine (crash_any u1 exD (some ⟨(w1).heap.size, 0, none⟩) 3 3 [0, 1, 1] (w1.alloc (.cells [.int .i64 0, .int .i64 1, .int .i64 1].toArray 3)) (HU1.out.below (bl_alloc (bl_refl _) _)) exK4 (Blk.new w1 [.int .i64 0, .int .i64 1, .int .i64 1] _).rd rfl).mono ?_
  rintro e w2 ⟨v1, rfl, hu2, hb2⟩
  have HU2 := hide hu2
  have HB2 := hide (bl_trans HB1.out (bl_trans (bl_alloc (bl_refl w1) _) hb2))
  clear hu2 hb2 HU1 HB1
  go_wp2_with fail
  refine (read_any v1 _ [97] w2 HU2.out (exC _)).mono ?_
  rintro e w3 ⟨rfl, hb3⟩
  rw [ex_c1]
  have HB31 := hide (bl_trans HB2.out hb3)
  clear hb3 HU2 HB2
  go_wp2_with fail
  refine (example_any w3).mono ?_
  rintro e w4 ⟨u2, rfl, hu1, hb1⟩
  have HU1 := hide hu1
  have HB1 := hide (bl_trans HB31.out hb1)
  clear hu1 hb1
  go_wp2_with fail
  refine (crash_any u2 exD (some ⟨(w4).heap.size, 0, none⟩) 3 3 [0, 2, 0] (w4.alloc (.cells [.int .i64 0, .int .i64 2, .int .i64 0].toArray 3)) (HU1.out.below (bl_alloc (bl_refl _) _)) exK4 (Blk.new w4 [.int .i64 0, .int .i64 2, .int .i64 0] _).rd rfl).mono ?_
  rintro e w5 ⟨v2, rfl, hu2, hb2⟩
  have HU2 := hide hu2
  have HB2 := hide (bl_trans HB1.out (bl_trans (bl_alloc (bl_refl w4) _) hb2))
  clear hu2 hb2 HU1 HB1
  go_wp2_with fail
  refine (read_any v2 _ [97] w5 HU2.out (exC _)).mono ?_
  rintro e w6 ⟨rfl, hb3⟩
  rw [ex_c2]
  have HB32 := hide (bl_trans HB2.out hb3)
  clear hb3 HU2 HB2
  go_wp2_with fail
  refine (example_any w6).mono ?_
  rintro e w7 ⟨u3, rfl, hu1, hb1⟩
  have HU1 := hide hu1
  have HB1 := hide (bl_trans HB32.out hb1)
  clear hu1 hb1
  go_wp2_with fail
  refine (crash_any u3 exD none 0 0 [] w7 HU1.out exK4 (.inl rfl) rfl).mono ?_
  rintro e w8 ⟨v3, rfl, hu2, hb2⟩
  have HU2 := hide hu2
  have HB2 := hide (bl_trans HB1.out hb2)
  clear hu2 hb2 HU1 HB1
  go_wp2_with fail
  refine (read_any v3 _ [97] w8 HU2.out (exC _)).mono ?_
  rintro e w9 ⟨rfl, hb3⟩
  rw [ex_c3]
  have HB33 := hide (bl_trans HB2.out hb3)
  clear hb3 HU2 HB2
  have e1 : (bstr [120, 121, 0] == (⟨#[120, 121, 0]⟩ : ByteArray)) = true := by decide
  have e2 : (bstr [120, 121, 122, 119] == (⟨#[120, 121, 122, 119]⟩ : ByteArray)) = true := by decide
  have e3 : (bstr [120, 121] == (⟨#[120, 121]⟩ : ByteArray)) = true := by decide
  go_wp2
  go_ret
  exact ⟨rfl, HB33.out⟩
end Go.Proofs.Ytjpmfiicbokdcaa
