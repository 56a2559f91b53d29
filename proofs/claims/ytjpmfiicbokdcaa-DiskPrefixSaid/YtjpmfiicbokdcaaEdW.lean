/- The walks of the program's ApplyAll and Apply. -/
import Derived.Test.YtjpmfiicbokdcaaEcW
import Derived.Test.YtjpmfiicbokdcaaVM
namespace Go.Proofs.Ytjpmfiicbokdcaa
open Go.RowKit
set_option linter.unusedVariables false
set_option linter.unusedSimpArgs false
theorem apply_valid {d : Dsk} (h : validM d = true) (o : DOp) : applyM d o = appM d o := by unfold applyM; rw [h]; rfl
set_option maxHeartbeats 16000000 in
set_option maxRecDepth 100000 in
theorem applyall_any (v : Value) (d : Dsk) (a : Option Addr) (n c : Nat) (l : List DOp) (K : Nat) (w : World) (h : IsD w v d) (hl : RO w a n l) (hk : szK K d) (hK : K + l.length ≤ 90000) (hdat : ∀ o ∈ l, o.2.2.2.length ≤ 140737488355328) :
    Calls Try.prog 30 #[v, .slice a n c] w (AppP w (allM d l)) := by
  have HL := hide hl
  have HN := hide (show n = l.length from hl.1)
  have hn : n ≤ 100000 := by rw [HN.out]; omega
  have HDT := hide hdat
  have HV := hide (fun (wx : World) (hb : Below w.heap.size w wx) => validate_any _ d wx (h.below hb) (hk.szD (by omega)))
  have HI := hide (fun (wx : World) (hb : Below w.heap.size w wx) => h.below hb)
  obtain ⟨a1, n1, c1, a2, n2, c2, a3, n3, c3, a4, n4, c4, rfl, -⟩ := h.h
  obtain ⟨r, hr⟩ : ∃ r, r = allM d l := ⟨_, rfl⟩
  have HR := hide hr
  rw [← hr]
  obtain ⟨er, her⟩ : ∃ er, er = errM d := ⟨_, rfl⟩
  have HER := hide her
  rw [← her] at HV
  have HSZ := hide hk
  have HKL := hide (show K + n ≤ 90000 by rw [HN.out]; exact hK)
  clear h hl hdat hk hK hr her
  obtain ⟨W2, hW2⟩ : ∃ W2, W2 = (w.alloc (.cells [.slice a1 n1 c1, .slice a2 n2 c2, .slice a3 n3 c3, .slice a4 n4 c4].toArray 27)).alloc (.cells [.slice none 0 0, .slice none 0 0, .slice none 0 0, .slice none 0 0].toArray 27) := ⟨_, rfl⟩
  have B0 := hide (show Blk W2 w.heap.size [.slice a1 n1 c1, .slice a2 n2 c2, .slice a3 n3 c3, .slice a4 n4 c4] 27 by rw [hW2]; exact (Blk.new w _ _).alloc _)
  have B1 := hide (show Blk W2 (w.heap.size + 1) [.slice none 0 0, .slice none 0 0, .slice none 0 0, .slice none 0 0] 27 by rw [hW2]; exact Blk.newG (by simp) _ _)
  have HB2 := hide (show Below w.heap.size w W2 by rw [hW2]; exact bl_alloc (bl_alloc (bl_refl w) _) _)
  have HW2 := hide hW2
  clear hW2
  go_enter Try.func30, Try.ntmps30
  go_wp2_with fail
  rw [← HW2.out]
  clear HW2
  refine (HV.out W2 HB2.out).mono ?_
  rintro e w1 ⟨rfl, hb1⟩
  have C0 := hide (B0.out.below hb1)
  have C1 := hide (B1.out.below hb1)
  have HB1 := hide (HB2.out.trans (hb1.mono HB2.out.size))
  clear hb1 B0 B1 HB2
  have y0 : w1.cell? ⟨w.heap.size + 1, 0, none⟩ = some _ := C1.out.cell rfl
  have y1 : w1.cell? ⟨w.heap.size + 1, 1, none⟩ = some _ := C1.out.cell rfl
  have y2 : w1.cell? ⟨w.heap.size + 1, 2, none⟩ = some _ := C1.out.cell rfl
  have y3 : w1.cell? ⟨w.heap.size + 1, 3, none⟩ = some _ := C1.out.cell rfl
  have l1 := C1.out.lt
  have f1 := C1.out.fr
  cases hvd : validM d with
  | false =>
    obtain rfl : er = 9 := by rw [HER.out]; unfold errM; rw [hvd]; rfl
    have hr : r = (.nil, 9) := by rw [HR.out]; unfold allM; rw [hvd]; rfl
    have HRR := hide hr
    clear hvd hr
    go_wp2
    refine bodyPost_ret (results_cell_tmp_row Try.results30 _ _ (w.heap.size + 1) 27 _ _ rfl (C1.out.set4 _ _ _ _) Try.underlying27 rfl (by kernel_rfl)) rfl ?_
    exact .no HRR.out rfl (bl_set4 HB1.out (by omega) _ _ _ _)
  | true =>
    obtain rfl : er = 0 := by rw [HER.out]; unfold errM; rw [hvd]; rfl
    have hr : r = goM d (l.drop 0) := by rw [HR.out]; unfold allM; rw [hvd]; rfl
    have HRR := hide hr
    have HVD := hide hvd
    have HCL := hide (clone_any _ d w1 (HI.out w1 HB1.out) (HSZ.out.szD (by have := HKL.out; omega)))
    clear hvd hr y0 y1 y2 y3 l1 f1 HR
    have d0 : w1.cell? ⟨w.heap.size, 0, none⟩ = some _ := C0.out.cell rfl
    have d1 : w1.cell? ⟨w.heap.size, 1, none⟩ = some _ := C0.out.cell rfl
    have d2 : w1.cell? ⟨w.heap.size, 2, none⟩ = some _ := C0.out.cell rfl
    have d3 : w1.cell? ⟨w.heap.size, 3, none⟩ = some _ := C0.out.cell rfl
    go_wp2_with fail
    refine HCL.out.mono ?_
    rintro e w2 ⟨b1, m1, q1, b2, m2, q2, b3, m3, q3, b4, m4, q4, rfl, how, hb2⟩
    have hw1 := C1.out.lt
    have D0 := hide (C0.out.below hb2)
    have D1 := hide (C1.out.below hb2)
    have DO := hide (how.base (show w.heap.size + 1 + 1 ≤ w1.heap.size by omega))
    have HB2 := hide (HB1.out.trans (hb2.mono HB1.out.size))
    clear how hb2 HCL C0 C1 HB1 d0 d1 d2 d3
    have d0 : w2.cell? ⟨w.heap.size, 0, none⟩ = some _ := D0.out.cell rfl
    have d1 : w2.cell? ⟨w.heap.size, 1, none⟩ = some _ := D0.out.cell rfl
    have d2 : w2.cell? ⟨w.heap.size, 2, none⟩ = some _ := D0.out.cell rfl
    have d3 : w2.cell? ⟨w.heap.size, 3, none⟩ = some _ := D0.out.cell rfl
    have l0 := D0.out.lt
    have f0 := D0.out.fr
    have C0 := hide (D0.out.set4 (.slice b1 m1 q1) (.slice b2 m2 q2) (.slice b3 m3 q3) (.slice b4 m4 q4))
    have C1 := hide (D1.out.set4ne (show w.heap.size + 1 ≠ w.heap.size by omega) (.slice b1 m1 q1) (.slice b2 m2 q2) (.slice b3 m3 q3) (.slice b4 m4 q4))
    have CO := hide (DO.out.set4 D0.out (.slice b1 m1 q1) (.slice b2 m2 q2) (.slice b3 m3 q3) (.slice b4 m4 q4))
    have HB3 := hide (bl_set4 HB2.out (Nat.le_refl _) (.slice b1 m1 q1) (.slice b2 m2 q2) (.slice b3 m3 q3) (.slice b4 m4 q4))
    clear D0 D1 DO HB2
    unfold set4 at C0 C1 CO HB3
    go_wp2_with fail
    clear d0 d1 d2 d3 l0 f0
    go_loopw [21] (fun kv wr => ∃ (k : Nat) (b1 : Option Addr) (m1 q1 : Nat) (b2 : Option Addr) (m2 q2 : Nat) (b3 : Option Addr) (m3 q3 : Nat) (b4 : Option Addr) (m4 q4 : Nat) (dk : Dsk), kv = .int .i64 (k : Int) ∧ k ≤ n ∧ Hid (Blk wr w.heap.size [.slice b1 m1 q1, .slice b2 m2 q2, .slice b3 m3 q3, .slice b4 m4 q4] 27) ∧ Hid (Blk wr (w.heap.size + 1) [.slice none 0 0, .slice none 0 0, .slice none 0 0, .slice none 0 0] 27) ∧ Hid (OwD wr (w.heap.size + 1 + 1) b1 m1 q1 b2 m2 q2 b3 m3 q3 b4 m4 q4 dk) ∧ Hid (validM dk = true) ∧ Hid (szK (K + k) dk) ∧ Hid (r = goM dk (l.drop k)) ∧ Hid (Below w.heap.size w wr)) (fun kv _ => n - (intOf kv).toNat)
    case atStart => exact ⟨0, _, _, _, _, _, _, _, _, _, _, _, _, d, rfl, by omega, C0, C1, CO, HVD, HSZ, HRR, HB3⟩
    case round =>
      clear C0 C1 CO HRR HB3 HVD
      obtain ⟨k, b1, m1, q1, b2, m2, q2, b3, m3, q3, b4, m4, q4, dk, rfl, hk, C0, C1, CO, HVD, HSK, HRR, HB1⟩ := hrel
      have d0 : wr.cell? ⟨w.heap.size, 0, none⟩ = some _ := C0.out.cell rfl
      have d1 : wr.cell? ⟨w.heap.size, 1, none⟩ = some _ := C0.out.cell rfl
      have d2 : wr.cell? ⟨w.heap.size, 2, none⟩ = some _ := C0.out.cell rfl
      have d3 : wr.cell? ⟨w.heap.size, 3, none⟩ = some _ := C0.out.cell rfl
      have l0 := C0.out.lt
      by_cases hlt : k < n
      · obtain ⟨b, o, kd, s, t, dd, rfl, hbl, hx, g0, g1, g2, g3⟩ := (HL.out.below HB1.out).at_ hlt
        have hkn : (k : Int) < (n : Int) := by omega
        have hdr : l.drop k = (kd, s, t, dd) :: l.drop (k + 1) := by
          obtain ⟨p1, p2⟩ := List.getElem?_eq_some_iff.1 hx
          rw [← p2, List.drop_eq_getElem_cons p1]
        have hrr := HRR.out
        rw [hdr, goM, apply_valid HVD.out] at hrr
        have HRX := hide hrr
        obtain ⟨wa, hwa⟩ : ∃ wa, wa = wr.alloc (.cells #[.int .i64 kd, .string (bstr s), .string (bstr t), .string (bstr dd)] 48) := ⟨_, rfl⟩
        have hba : Below wr.heap.size wr wa := by rw [hwa]; exact bl_alloc (bl_refl wr) _
        have hw2 := C1.out.lt
        have HAP := hide (apply_any (w.heap.size + 1 + 1) b1 m1 q1 b2 m2 q2 b3 m3 q3 b4 m4 q4 dk (kd, s, t, dd) wa (CO.out.below hba) (by have := hba.size; omega) (HSK.out.szD (by have := HKL.out; omega)) HVD.out (HDT.out _ (List.mem_of_getElem? hx)))
        have D0 := hide (C0.out.below hba)
        have D1 := hide (C1.out.below hba)
        have HBA := hide (HB1.out.trans (hba.mono HB1.out.size))
        have HWS := hide (show w.heap.size + 1 + 1 ≤ wa.heap.size by have := hba.size; omega)
        have HRL := hide ((CO.out.below hba).rows_lt)
        have hsn := HSK.out.step (kd, s, t, dd)
        rw [apply_valid HVD.out] at hsn
        have HSN := hide hsn
        have HVN := hide (fun h0 => valid_app HVD.out (kd, s, t, dd) h0)
        obtain ⟨⟨d2', er⟩, hst⟩ : ∃ q, q = appM dk (kd, s, t, dd) := ⟨_, rfl⟩
        rw [← hst] at HRX HAP HSN HVN
        simp only [] at HRX HSN HVN
        unfold oV at HAP
        have HWA := hide hwa
        clear hwa hst hrr hdr hx hbl hba hsn hw2
        go_wp2_with fail
        rw [← HWA.out]
        clear HWA d0 d1 d2 d3 l0 g0 g1 g2 g3
        refine HAP.out.mono ?_
        rintro e w5 ⟨b1', m1', q1', b2', m2', q2', b3', m3', q3', b4', m4', q4', rfl, how, hkp⟩
        have F0 := hide (D0.out.kp hkp (fun h => by have := (HRL.out _ h).1; omega))
        have F1 := hide (D1.out.kp hkp (fun h => by have := (HRL.out _ h).1; omega))
        have FO := hide how
        have HB5 := hide (HBA.out.trans (hkp.toBelow (B := w.heap.size) (by have := HWS.out; omega) (fun q h => by have := (HRL.out _ h).1; omega)))
        have HS5 := hide hkp.size
        clear how hkp D0 D1 HBA C0 C1 CO HB1 HAP HRL
        have d0 : w5.cell? ⟨w.heap.size, 0, none⟩ = some _ := F0.out.cell rfl
        have d1 : w5.cell? ⟨w.heap.size, 1, none⟩ = some _ := F0.out.cell rfl
        have d2 : w5.cell? ⟨w.heap.size, 2, none⟩ = some _ := F0.out.cell rfl
        have d3 : w5.cell? ⟨w.heap.size, 3, none⟩ = some _ := F0.out.cell rfl
        have l0 := F0.out.lt
        have f0 := F0.out.fr
        simp only []
        by_cases her : er = 0
        · subst her
          rw [if_neg (by decide)] at HRX
          go_wp2
          go_roundw
          case rel =>
            refine ⟨k + 1, _, _, _, _, _, _, _, _, _, _, _, _, d2', by go_num, by omega, hide ((F0.out.set4 _ _ _ _).alloc _), hide ((F1.out.set4ne (by omega) _ _ _ _).alloc _), hide ((FO.out.set4 F0.out _ _ _ _).below (bl_alloc (bl_refl _) _)), hide (HVN.out rfl), HSN, HRX, hide (bl_alloc (bl_set4 HB5.out (Nat.le_refl _) _ _ _ _) _)⟩
          case measure => simp [intOf]; omega
        · rw [if_pos her] at HRX
          obtain ⟨ei, hei⟩ : ∃ ei : Int, ei = (er : Int) := ⟨_, rfl⟩
          have h0i : (ei == 0) = false := by rw [beq_eq_false_iff_ne]; omega
          have h0j : (ei != 0) = true := by simp only [bne, h0i]; rfl
          have HEI := hide hei
          have y0 : w5.cell? ⟨w.heap.size + 1, 0, none⟩ = some _ := F1.out.cell rfl
          have y1 : w5.cell? ⟨w.heap.size + 1, 1, none⟩ = some _ := F1.out.cell rfl
          have y2 : w5.cell? ⟨w.heap.size + 1, 2, none⟩ = some _ := F1.out.cell rfl
          have y3 : w5.cell? ⟨w.heap.size + 1, 3, none⟩ = some _ := F1.out.cell rfl
          have l1 := F1.out.lt
          have f1 := F1.out.fr
          rw [← hei]
          clear hei her
          go_wp2
          refine bodyPost_ret (results_cell_tmp_row Try.results30 _ _ (w.heap.size + 1) 27 _ _ rfl ((F1.out.set4 _ _ _ _).alloc _) Try.underlying27 rfl (by kernel_rfl)) rfl ?_
          exact .no HRX.out (by rw [← HEI.out]; rfl) (bl_alloc (bl_set4 HB5.out (by omega) _ _ _ _) _)
      · obtain rfl : k = n := by omega
        have hkn : ¬ (k : Int) < (k : Int) := by omega
        have hrr : r = (dk, 0) := by rw [HRR.out, List.drop_of_length_le (by rw [← HN.out]; exact Nat.le_refl _)]; rfl
        have HRX := hide hrr
        have y0 : wr.cell? ⟨w.heap.size + 1, 0, none⟩ = some _ := C1.out.cell rfl
        have y1 : wr.cell? ⟨w.heap.size + 1, 1, none⟩ = some _ := C1.out.cell rfl
        have y2 : wr.cell? ⟨w.heap.size + 1, 2, none⟩ = some _ := C1.out.cell rfl
        have y3 : wr.cell? ⟨w.heap.size + 1, 3, none⟩ = some _ := C1.out.cell rfl
        have l1 := C1.out.lt
        have f1 := C1.out.fr
        clear hrr
        go_wp2
        refine bodyPost_ret (results_cell_tmp_row Try.results30 _ _ (w.heap.size + 1) 27 _ _ rfl (C1.out.set4 _ _ _ _) Try.underlying27 rfl (by kernel_rfl)) rfl ?_
        exact .ok HRX.out rfl (CO.out.isD.set4 C1.out (allSl4 _ _ _ _ _ _ _ _ _ _ _ _) rfl rfl rfl) (bl_set4 HB1.out (by omega) _ _ _ _)
theorem all_one (d : Dsk) (o : DOp) : allM d [o] = applyM d o := by
  unfold allM applyM
  by_cases h : validM d = true
  · rw [if_pos h, if_pos h]
    unfold goM
    rw [apply_valid h]
    rcases hr : appM d o with ⟨d', er⟩
    by_cases he : er = 0
    · subst he; rfl
    · rw [if_pos he]
      have : d' = .nil := by
        unfold appM at hr
        split at hr
        · injection hr with h1; exact h1.symm
        · split at hr
          · injection hr with h1 h2; exact absurd h2.symm he
          · split at hr
            · split at hr
              · injection hr with h1; exact h1.symm
              · simp only [] at hr
                split at hr
                · injection hr with h1 h2; exact absurd h2.symm he
                · split at hr
                  · injection hr with h1; exact h1.symm
                  · injection hr with h1 h2; exact absurd h2.symm he
            · split at hr
              · injection hr with h1; exact h1.symm
              · injection hr with h1 h2; exact absurd h2.symm he
      rw [this]
  · rw [if_neg h, if_neg h]
set_option maxHeartbeats 4000000 in
set_option maxRecDepth 100000 in
theorem papply_any (v : Value) (d : Dsk) (o : DOp) (K : Nat) (w : World) (h : IsD w v d) (hk : szK K d) (hK : K ≤ 89999) (ho : o.2.2.2.length ≤ 140737488355328) :
    Calls Try.prog 29 #[v, oV o] w (AppP w (applyM d o)) := by
  obtain ⟨kd, s, t, dd⟩ := o
  have HI := hide (fun (wx : World) (hb : Below w.heap.size w wx) => h.below hb)
  obtain ⟨a1, n1, c1, a2, n2, c2, a3, n3, c3, a4, n4, c4, rfl, -⟩ := h.h
  unfold oV
  simp only [] at ho ⊢
  obtain ⟨r, hr⟩ : ∃ r, r = applyM d (kd, s, t, dd) := ⟨_, rfl⟩
  rw [← hr]
  obtain ⟨W3, hW3⟩ : ∃ W3, W3 = ((w.alloc (.cells [.slice a1 n1 c1, .slice a2 n2 c2, .slice a3 n3 c3, .slice a4 n4 c4].toArray 27)).alloc (.cells [.int .i64 kd, .string (bstr s), .string (bstr t), .string (bstr dd)].toArray 48)).alloc (.cells [.slice none 0 0, .slice none 0 0, .slice none 0 0, .slice none 0 0].toArray 27) := ⟨_, rfl⟩
  obtain ⟨W4, hW4⟩ : ∃ W4, W4 = W3.alloc (.cells [.int .i64 kd, .string (bstr s), .string (bstr t), .string (bstr dd)].toArray 48) := ⟨_, rfl⟩
  have B2 := hide (show Blk W4 (w.heap.size + 1 + 1) [.slice none 0 0, .slice none 0 0, .slice none 0 0, .slice none 0 0] 27 by rw [hW4, hW3]; exact (Blk.newG (by simp) _ _).alloc _)
  have HB4 := hide (show Below w.heap.size w W4 by rw [hW4, hW3]; exact bl_alloc (bl_alloc (bl_alloc (bl_alloc (bl_refl w) _) _) _) _)
  have hsz : W3.heap.size = w.heap.size + 1 + 1 + 1 := by rw [hW3]; simp
  have hro : RO W4 (some ⟨w.heap.size + 1 + 1 + 1, 0, none⟩) 1 [(kd, s, t, dd)] := ⟨rfl, by rw [hW4]; exact rd_oneOG hsz.symm (kd, s, t, dd) _⟩
  have HAL := hide (applyall_any _ d (some ⟨w.heap.size + 1 + 1 + 1, 0, none⟩) 1 1 [(kd, s, t, dd)] K W4 (HI.out W4 HB4.out) hro hk (by simp; omega) (by intro o ho'; simp at ho'; subst ho'; exact ho))
  rw [all_one, ← hr] at HAL
  have HW4 := hide (show (((w.alloc (.cells [.slice a1 n1 c1, .slice a2 n2 c2, .slice a3 n3 c3, .slice a4 n4 c4].toArray 27)).alloc (.cells [.int .i64 kd, .string (bstr s), .string (bstr t), .string (bstr dd)].toArray 48)).alloc (.cells [.slice none 0 0, .slice none 0 0, .slice none 0 0, .slice none 0 0].toArray 27)).alloc (.cells [.int .i64 kd, .string (bstr s), .string (bstr t), .string (bstr dd)].toArray 48) = W4 by rw [hW4, hW3])
  clear h hk hr hW4 hW3 hsz hro
  go_enter Try.func29, Try.ntmps29
  go_wp2_with fail
  rw [HW4.out]
  clear HW4
  refine HAL.out.mono ?_
  rintro e w5 ⟨u, rfl, hu, hb5⟩
  obtain ⟨b1, m1, q1, b2, m2, q2, b3, m3, q3, b4, m4, q4, rfl, -⟩ := hu.h
  have HU := hide hu
  have C2 := hide (B2.out.below hb5)
  have HB5 := hide (HB4.out.trans (hb5.mono HB4.out.size))
  clear hu hb5 HAL
  have y0 : w5.cell? ⟨w.heap.size + 1 + 1, 0, none⟩ = some _ := C2.out.cell rfl
  have y1 : w5.cell? ⟨w.heap.size + 1 + 1, 1, none⟩ = some _ := C2.out.cell rfl
  have y2 : w5.cell? ⟨w.heap.size + 1 + 1, 2, none⟩ = some _ := C2.out.cell rfl
  have y3 : w5.cell? ⟨w.heap.size + 1 + 1, 3, none⟩ = some _ := C2.out.cell rfl
  have l2 := C2.out.lt
  have f2 := C2.out.fr
  go_wp2
  refine bodyPost_ret (results_cell_tmp_row Try.results29 _ _ (w.heap.size + 1 + 1) 27 _ _ rfl (C2.out.set4 _ _ _ _) Try.underlying27 rfl (by kernel_rfl)) rfl ?_
  exact ⟨_, rfl, HU.out.set4 C2.out (allSl4 _ _ _ _ _ _ _ _ _ _ _ _) rfl rfl rfl, bl_set4 HB5.out (by omega) _ _ _ _⟩
end Go.Proofs.Ytjpmfiicbokdcaa
