/- The walk of the reference's ApplyAll. -/
import Derived.Test.YtjpmfiicbokdcaaDmW
namespace Go.Proofs.Ytjpmfiicbokdcaa
open Go.RowKit
set_option linter.unusedVariables false
set_option linter.unusedSimpArgs false
/-- Operations one after the other, up to the first error. -/
def goM : Dsk → List DOp → Dsk × Nat
  | d, [] => (d, 0)
  | d, o :: os => if (applyM d o).2 ≠ 0 then (.nil, (applyM d o).2) else goM (applyM d o).1 os
def allM (d : Dsk) (l : List DOp) : Dsk × Nat := if validM d then goM d l else (.nil, 9)
def szK (K : Nat) (d : Dsk) : Prop := d.inodes.length ≤ K ∧ d.dir.length ≤ K ∧ d.dur.length ≤ K ∧ d.ops.length ≤ K
theorem szK.szD {K : Nat} {d : Dsk} (h : szK K d) (hK : K ≤ 100000) : szD d := ⟨Nat.le_trans h.1 hK, Nat.le_trans h.2.1 hK, Nat.le_trans h.2.2.1 hK, Nat.le_trans h.2.2.2 hK⟩
theorem kept_le (dir : List Ent) : ∀ (l : List Ent) (a : Nat), (keptM dir a l).length ≤ l.length
  | [], _ => Nat.le_refl _
  | x :: l, a => by
    have := kept_le dir l (a + 1)
    unfold keptM
    split
    · simp; omega
    · simp; omega
theorem szK.step {K : Nat} {d : Dsk} (h : szK K d) (o : DOp) : szK (K + 1) (applyM d o).1 := by
  have hnil : szK (K + 1) Dsk.nil := ⟨Nat.zero_le _, Nat.zero_le _, Nat.zero_le _, Nat.zero_le _⟩
  have hsl := step_len d.dir o d.inodes.length
  have hkl := kept_le d.dir d.inodes 0
  obtain ⟨h1, h2, h3, h4⟩ := h
  unfold applyM
  split
  · unfold appM
    split
    · exact hnil
    · split
      · refine ⟨?_, ?_, ?_, ?_⟩ <;> simp [setM, movM] <;> omega
      · split
        · split
          · exact hnil
          · simp only []
            split
            · refine ⟨?_, ?_, ?_, ?_⟩ <;> simp <;> omega
            · split
              · exact hnil
              · refine ⟨?_, ?_, ?_, ?_⟩ <;> simp <;> omega
        · split
          · exact hnil
          · refine ⟨?_, ?_, ?_, ?_⟩
            · simp only []
              split
              · simp; omega
              · omega
            · simp only []; omega
            · simp only []; omega
            · simp; omega
  · exact hnil
set_option maxHeartbeats 16000000 in
set_option maxRecDepth 100000 in
theorem rapplyall_any (v : Value) (d : Dsk) (a : Option Addr) (n c : Nat) (l : List DOp) (K : Nat) (w : World) (h : IsD w v d) (hl : RO w a n l) (hk : szK K d) (hK : K + l.length ≤ 100000) (hdat : ∀ o ∈ l, o.2.2.2.length ≤ 140737488355328) :
    Calls Try.prog 69 #[v, .slice a n c] w (AppP w (allM d l)) := by
  have HL := hide hl
  have HN := hide (show n = l.length from hl.1)
  have hn : n ≤ 100000 := by rw [HN.out]; omega
  have HDT := hide hdat
  have HV := hide (fun (wx : World) (hb : Below w.heap.size w wx) => rvalidate_any _ d wx (h.below hb) (hk.szD (by omega)))
  have HI := hide (fun (wx : World) (hb : Below w.heap.size w wx) => h.below hb)
  obtain ⟨a1, n1, c1, a2, n2, c2, a3, n3, c3, a4, n4, c4, rfl, -⟩ := h.h
  obtain ⟨r, hr⟩ : ∃ r, r = allM d l := ⟨_, rfl⟩
  have HR := hide hr
  rw [← hr]
  obtain ⟨er, her⟩ : ∃ er, er = errM d := ⟨_, rfl⟩
  have HER := hide her
  rw [← her] at HV
  have HSZ := hide hk
  have HKL := hide (show K + n ≤ 100000 by rw [HN.out]; exact hK)
  clear h hl hdat hk hK hr her
  obtain ⟨W2, hW2⟩ : ∃ W2, W2 = (w.alloc (.cells [.slice a1 n1 c1, .slice a2 n2 c2, .slice a3 n3 c3, .slice a4 n4 c4].toArray 27)).alloc (.cells [.slice none 0 0, .slice none 0 0, .slice none 0 0, .slice none 0 0].toArray 27) := ⟨_, rfl⟩
  have B0 := hide (show Blk W2 w.heap.size [.slice a1 n1 c1, .slice a2 n2 c2, .slice a3 n3 c3, .slice a4 n4 c4] 27 by rw [hW2]; exact (Blk.new w _ _).alloc _)
  have B1 := hide (show Blk W2 (w.heap.size + 1) [.slice none 0 0, .slice none 0 0, .slice none 0 0, .slice none 0 0] 27 by rw [hW2]; exact Blk.newG (by simp) _ _)
  have HB2 := hide (show Below w.heap.size w W2 by rw [hW2]; exact bl_alloc (bl_alloc (bl_refl w) _) _)
  have HW2 := hide hW2
  clear hW2
  go_enter Try.func69, Try.ntmps69
  go_wp2_with fail
  rw [← HW2.out]
  clear HW2
  refine (HV.out W2 HB2.out).mono ?_
  rintro e w1 ⟨rfl, hb1⟩
  have C0 := hide (B0.out.below hb1)
  have C1 := hide (B1.out.below hb1)
  have HB1 := hide (HB2.out.trans (hb1.mono HB2.out.size))
  clear hb1 B0 B1 HB2
  have y0 : w1.cell? ⟨w.heap.size + 1, 0, none⟩ = some _ := C1.out.cell rfl
  have y1 : w1.cell? ⟨w.heap.size + 1, 1, none⟩ = some _ := C1.out.cell rfl
  have y2 : w1.cell? ⟨w.heap.size + 1, 2, none⟩ = some _ := C1.out.cell rfl
  have y3 : w1.cell? ⟨w.heap.size + 1, 3, none⟩ = some _ := C1.out.cell rfl
  have l1 := C1.out.lt
  have f1 := C1.out.fr
  cases hvd : validM d with
  | false =>
    obtain rfl : er = 9 := by rw [HER.out]; unfold errM; rw [hvd]; rfl
    have hr : r = (.nil, 9) := by rw [HR.out]; unfold allM; rw [hvd]; rfl
    have HRR := hide hr
    clear hvd hr
    go_wp2
    refine bodyPost_ret (results_cell_tmp_row Try.results69 _ _ (w.heap.size + 1) 27 _ _ rfl (C1.out.set4 _ _ _ _) Try.underlying27 rfl (by kernel_rfl)) rfl ?_
    exact .no HRR.out rfl (bl_set4 HB1.out (by omega) _ _ _ _)
  | true =>
    obtain rfl : er = 0 := by rw [HER.out]; unfold errM; rw [hvd]; rfl
    have hr : r = goM d (l.drop 0) := by rw [HR.out]; unfold allM; rw [hvd]; rfl
    have HRR := hide hr
    have HI1 := hide (HI.out w1 HB1.out)
    clear hvd hr y0 y1 y2 y3 l1 f1 HR
    go_wp2_with fail
    go_loopw [18] (fun kv wr => ∃ (k : Nat) (b1 : Option Addr) (m1 q1 : Nat) (b2 : Option Addr) (m2 q2 : Nat) (b3 : Option Addr) (m3 q3 : Nat) (b4 : Option Addr) (m4 q4 : Nat) (dk : Dsk), kv = .int .i64 (k : Int) ∧ k ≤ n ∧ Hid (Blk wr w.heap.size [.slice b1 m1 q1, .slice b2 m2 q2, .slice b3 m3 q3, .slice b4 m4 q4] 27) ∧ Hid (Blk wr (w.heap.size + 1) [.slice none 0 0, .slice none 0 0, .slice none 0 0, .slice none 0 0] 27) ∧ Hid (IsD wr (.agg #[.slice b1 m1 q1, .slice b2 m2 q2, .slice b3 m3 q3, .slice b4 m4 q4]) dk) ∧ Hid (szK (K + k) dk) ∧ Hid (r = goM dk (l.drop k)) ∧ Hid (Below w.heap.size w wr)) (fun kv _ => n - (intOf kv).toNat)
    case atStart => exact ⟨0, _, _, _, _, _, _, _, _, _, _, _, _, d, rfl, by omega, C0, C1, HI1, HSZ, HRR, HB1⟩
    case round =>
      clear C0 C1 HI1 HRR HB1
      obtain ⟨k, b1, m1, q1, b2, m2, q2, b3, m3, q3, b4, m4, q4, dk, rfl, hk, C0, C1, HI1, HSK, HRR, HB1⟩ := hrel
      have d0 : wr.cell? ⟨w.heap.size, 0, none⟩ = some _ := C0.out.cell rfl
      have d1 : wr.cell? ⟨w.heap.size, 1, none⟩ = some _ := C0.out.cell rfl
      have d2 : wr.cell? ⟨w.heap.size, 2, none⟩ = some _ := C0.out.cell rfl
      have d3 : wr.cell? ⟨w.heap.size, 3, none⟩ = some _ := C0.out.cell rfl
      have l0 := C0.out.lt
      by_cases hlt : k < n
      · obtain ⟨b, o, kd, s, t, dd, rfl, hbl, hx, g0, g1, g2, g3⟩ := (HL.out.below HB1.out).at_ hlt
        have hkn : (k : Int) < (n : Int) := by omega
        have hdr : l.drop k = (kd, s, t, dd) :: l.drop (k + 1) := by
          obtain ⟨p1, p2⟩ := List.getElem?_eq_some_iff.1 hx
          rw [← p2, List.drop_eq_getElem_cons p1]
        have hrr := HRR.out
        rw [hdr, goM] at hrr
        have HRX := hide hrr
        obtain ⟨wa, hwa⟩ : ∃ wa, wa = wr.alloc (.cells #[.int .i64 kd, .string (bstr s), .string (bstr t), .string (bstr dd)] 48) := ⟨_, rfl⟩
        have hba : Below wr.heap.size wr wa := by rw [hwa]; exact bl_alloc (bl_refl wr) _
        have HAP := hide (rapply_any (.agg #[.slice b1 m1 q1, .slice b2 m2 q2, .slice b3 m3 q3, .slice b4 m4 q4]) dk (kd, s, t, dd) wa (HI1.out.below hba) (HSK.out.szD (by have := HKL.out; omega)) (HDT.out _ (List.mem_of_getElem? hx)))
        have D0 := hide (C0.out.below hba)
        have D1 := hide (C1.out.below hba)
        have HBA := hide (HB1.out.trans (hba.mono HB1.out.size))
        have HSN := hide (HSK.out.step (kd, s, t, dd))
        obtain ⟨⟨d2', er⟩, hst⟩ : ∃ q, q = applyM dk (kd, s, t, dd) := ⟨_, rfl⟩
        rw [← hst] at HRX HAP HSN
        simp only [] at HRX HSN
        unfold oV at HAP
        have HWA := hide hwa
        clear hwa hst hrr hdr hx hbl hba
        go_wp2_with fail
        rw [← HWA.out]
        clear HWA d0 d1 d2 d3 l0 g0 g1 g2 g3
        refine HAP.out.mono ?_
        rintro e w5 ⟨u, rfl, hu, hb5⟩
        obtain ⟨b1', m1', q1', b2', m2', q2', b3', m3', q3', b4', m4', q4', rfl, -⟩ := hu.h
        have HU := hide hu
        have F0 := hide (D0.out.below hb5)
        have F1 := hide (D1.out.below hb5)
        have HB5 := hide (HBA.out.trans (hb5.mono HBA.out.size))
        clear hb5 hu D0 D1 HBA C0 C1 HI1 HB1 HAP
        have d0 : w5.cell? ⟨w.heap.size, 0, none⟩ = some _ := F0.out.cell rfl
        have d1 : w5.cell? ⟨w.heap.size, 1, none⟩ = some _ := F0.out.cell rfl
        have d2 : w5.cell? ⟨w.heap.size, 2, none⟩ = some _ := F0.out.cell rfl
        have d3 : w5.cell? ⟨w.heap.size, 3, none⟩ = some _ := F0.out.cell rfl
        have l0 := F0.out.lt
        have f0 := F0.out.fr
        simp only []
        by_cases her : er = 0
        · subst her
          rw [if_neg (by decide)] at HRX
          go_wp2
          go_roundw
          case rel =>
            refine ⟨k + 1, _, _, _, _, _, _, _, _, _, _, _, _, d2', by go_num, by omega, hide (F0.out.set4 _ _ _ _), hide (F1.out.set4ne (by omega) _ _ _ _), hide (HU.out.set4 F0.out (allSl4 _ _ _ _ _ _ _ _ _ _ _ _) rfl rfl rfl), HSN, HRX, hide (bl_set4 HB5.out (Nat.le_refl _) _ _ _ _)⟩
          case measure => simp [intOf]; omega
        · rw [if_pos her] at HRX
          obtain ⟨ei, hei⟩ : ∃ ei : Int, ei = (er : Int) := ⟨_, rfl⟩
          have h0i : (ei == 0) = false := by rw [beq_eq_false_iff_ne]; omega
          have h0j : (ei != 0) = true := by simp only [bne, h0i]; rfl
          have HEI := hide hei
          have y0 : w5.cell? ⟨w.heap.size + 1, 0, none⟩ = some _ := F1.out.cell rfl
          have y1 : w5.cell? ⟨w.heap.size + 1, 1, none⟩ = some _ := F1.out.cell rfl
          have y2 : w5.cell? ⟨w.heap.size + 1, 2, none⟩ = some _ := F1.out.cell rfl
          have y3 : w5.cell? ⟨w.heap.size + 1, 3, none⟩ = some _ := F1.out.cell rfl
          have l1 := F1.out.lt
          have f1 := F1.out.fr
          rw [← hei]
          clear hei her
          go_wp2
          refine bodyPost_ret (results_cell_tmp_row Try.results69 _ _ (w.heap.size + 1) 27 _ _ rfl ((F1.out.set4ne (by omega) _ _ _ _).set4 _ _ _ _) Try.underlying27 rfl (by kernel_rfl)) rfl ?_
          exact .no HRX.out (by rw [← HEI.out]; rfl) (bl_set4 (bl_set4 HB5.out (Nat.le_refl _) _ _ _ _) (by omega) _ _ _ _)
      · obtain rfl : k = n := by omega
        have hkn : ¬ (k : Int) < (k : Int) := by omega
        have hrr : r = (dk, 0) := by rw [HRR.out, List.drop_of_length_le (by rw [← HN.out]; exact Nat.le_refl _)]; rfl
        have HRX := hide hrr
        have y0 : wr.cell? ⟨w.heap.size + 1, 0, none⟩ = some _ := C1.out.cell rfl
        have y1 : wr.cell? ⟨w.heap.size + 1, 1, none⟩ = some _ := C1.out.cell rfl
        have y2 : wr.cell? ⟨w.heap.size + 1, 2, none⟩ = some _ := C1.out.cell rfl
        have y3 : wr.cell? ⟨w.heap.size + 1, 3, none⟩ = some _ := C1.out.cell rfl
        have l1 := C1.out.lt
        have f1 := C1.out.fr
        clear hrr
        go_wp2
        refine bodyPost_ret (results_cell_tmp_row Try.results69 _ _ (w.heap.size + 1) 27 _ _ rfl (C1.out.set4 _ _ _ _) Try.underlying27 rfl (by kernel_rfl)) rfl ?_
        exact .ok HRX.out rfl (HI1.out.set4 C1.out (allSl4 _ _ _ _ _ _ _ _ _ _ _ _) rfl rfl rfl) (bl_set4 HB1.out (by omega) _ _ _ _)
end Go.Proofs.Ytjpmfiicbokdcaa
