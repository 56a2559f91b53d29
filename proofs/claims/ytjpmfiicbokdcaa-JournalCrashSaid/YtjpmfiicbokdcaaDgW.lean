/- The walk of the reference's Validate. -/
import Derived.Test.YtjpmfiicbokdcaaDfW
namespace Go.Proofs.Ytjpmfiicbokdcaa
open Go.RowKit
set_option linter.unusedVariables false
set_option linter.unusedSimpArgs false
theorem valid_iff (d : Dsk) : validM d = true ↔ dirM d.inodes.length d.dir = true ∧ dirM d.inodes.length d.dur = true ∧ 0 ≤ firstM d ∧ (∀ e ∈ d.dur, e.2 < firstM d) ∧ (∀ i x, d.inodes[i]? = some x → inodeM d (firstM d) i x = true) ∧ repM d.dur (firstM d) d.ops = some d.dir := by
  unfold validM
  simp only [Bool.and_eq_true, decide_eq_true_eq, List.all_eq_true]
  constructor
  · rintro ⟨⟨⟨⟨⟨h1, h2⟩, h3⟩, h4⟩, h5⟩, h6⟩
    refine ⟨h1, h2, h3, h4, fun i x hx => h5 (x, i) ?_, h6⟩
    rw [List.mem_zipIdx_iff_getElem?]; exact hx
  · rintro ⟨h1, h2, h3, h4, h5, h6⟩
    refine ⟨⟨⟨⟨⟨h1, h2⟩, h3⟩, h4⟩, fun p hp => ?_⟩, h6⟩
    rw [List.mem_zipIdx_iff_getElem?] at hp
    exact h5 p.2 p.1 hp
theorem valid_no {d : Dsk} (h : ¬ (dirM d.inodes.length d.dir = true ∧ dirM d.inodes.length d.dur = true ∧ 0 ≤ firstM d ∧ (∀ e ∈ d.dur, e.2 < firstM d) ∧ (∀ i x, d.inodes[i]? = some x → inodeM d (firstM d) i x = true) ∧ repM d.dur (firstM d) d.ops = some d.dir)) : validM d = false := by
  rcases hv : validM d with _ | _
  · rfl
  · exact absurd ((valid_iff d).1 hv) h
/-- The error of a disk. -/
def errM (d : Dsk) : Nat := if validM d then 0 else 9
theorem dir_nn {n : Nat} {l : List Ent} (h : dirM n l = true) : nnE l := by
  intro e he
  obtain ⟨i, hi, rfl⟩ := List.mem_iff_getElem.1 he
  exact ((dirM_iff n l).1 h i _ (List.getElem?_eq_getElem hi)).2.1
/-- Sizes of disks that are walked. -/
def szD (d : Dsk) : Prop := d.inodes.length ≤ 100000 ∧ d.dir.length ≤ 100000 ∧ d.dur.length ≤ 100000 ∧ d.ops.length ≤ 100000
theorem any_take {l : List Ent} {k : Nat} {e : Ent} (h : l[k]? = some e) (p : Ent → Bool) : (l.take (k + 1)).any p = ((l.take k).any p || p e) := by
  rw [List.take_add_one, h]
  simp [List.any_append]
set_option maxHeartbeats 16000000 in
set_option maxRecDepth 100000 in
theorem rvalidate_any (v : Value) (d : Dsk) (w : World) (h : IsD w v d) (hs : szD d) :
    Calls Try.prog 18 #[v] w fun e w' => e = .returned (.int .i64 ((errM d : Nat) : Int)) ∧ Below w.heap.size w w' := by
  have HD0 := hide h
  obtain ⟨a1, n1, c1, a2, n2, c2, a3, n3, c3, a4, n4, c4, rfl, h1, h2, h3, h4, ⟨k1, m1⟩, ⟨k2, m2⟩, ⟨k3, m3⟩, k4, m4⟩ := h.h
  have H1 := hide h1
  have H2 := hide h2
  have H3 := hide h3
  have H4 := hide h4
  have HM := hide (And.intro m2 m3)
  have hn1 : n1 ≤ 100000 := by rw [h1.1]; exact hs.1
  have hn2 : n2 ≤ 100000 := by rw [h2.1]; exact hs.2.1
  have hn3 : n3 ≤ 100000 := by rw [h3.1]; exact hs.2.2.1
  have hn4 : n4 ≤ 100000 := by rw [h4.1]; exact hs.2.2.2
  have HS := hide hs
  obtain ⟨er, her⟩ : ∃ er, er = errM d := ⟨_, rfl⟩
  have HNO := hide (fun (hv : validM d = false) => show er = 9 by rw [her]; unfold errM; rw [hv]; rfl)
  have HYES := hide (fun (hv : validM d = true) => show er = 0 by rw [her]; unfold errM; rw [hv]; rfl)
  have HL := hide (show n1 = d.inodes.length ∧ n2 = d.dir.length ∧ n3 = d.dur.length ∧ n4 = d.ops.length from ⟨h1.1, h2.1, h3.1, h4.1⟩)
  have hcr : creM d.ops ≤ n4 := by rw [h4.1]; exact List.countP_le_length
  obtain ⟨cr, hcre⟩ : ∃ cr, cr = creM d.ops := ⟨_, rfl⟩
  obtain ⟨fm, hfm⟩ : ∃ fm, fm = firstM d := ⟨_, rfl⟩
  have hfme : (n1 : Int) - (cr : Int) = fm := by rw [hfm, hcre]; unfold firstM; rw [h1.1]
  have HRC := hide (fun (wx : World) (hb : Below w.heap.size w wx) => rcreates_any a4 n4 c4 d.ops wx (h4.below hb) (by omega))
  have HDI := hide (fun (wx : World) (hb : Below w.heap.size w wx) => rdirectory_any a2 n2 c2 n1 d.dir wx (h2.below hb) (by omega) k2 m2)
  have HDU := hide (fun (wx : World) (hb : Below w.heap.size w wx) => rdirectory_any a3 n3 c3 n1 d.dur wx (h3.below hb) (by omega) k3 m3)
  have HFM := hide hfm
  rw [← hcre] at HRC hcr
  rw [← her]
  obtain ⟨r1, hr1⟩ : ∃ r, r = dirM n1 d.dir := ⟨_, rfl⟩
  obtain ⟨r2, hr2⟩ : ∃ r, r = dirM n1 d.dur := ⟨_, rfl⟩
  have HR1 := hide hr1
  have HR2 := hide hr2
  rw [← hr1] at HDI
  rw [← hr2] at HDU
  clear h h1 h2 h3 h4 hs her hcre hfm hr1 hr2 m1 m2 m3 m4 k1 k2 k3 k4
  go_enter Try.func18, Try.ntmps18
  obtain ⟨W0, hW0⟩ : ∃ W0, W0 = w.alloc (.cells #[.slice a1 n1 c1, .slice a2 n2 c2, .slice a3 n3 c3, .slice a4 n4 c4] 27) := ⟨_, rfl⟩
  have z0 : W0.cell? ⟨w.heap.size, 0, none⟩ = some (.slice a1 n1 c1) := by rw [hW0, cell_of_row _ _ 0 _ _ (0, 0) (heap_alloc_new w _)]; rfl
  have z1 : W0.cell? ⟨w.heap.size, 1, none⟩ = some (.slice a2 n2 c2) := by rw [hW0, cell_of_row _ _ 1 _ _ (0, 0) (heap_alloc_new w _)]; rfl
  have z2 : W0.cell? ⟨w.heap.size, 2, none⟩ = some (.slice a3 n3 c3) := by rw [hW0, cell_of_row _ _ 2 _ _ (0, 0) (heap_alloc_new w _)]; rfl
  have z3 : W0.cell? ⟨w.heap.size, 3, none⟩ = some (.slice a4 n4 c4) := by rw [hW0, cell_of_row _ _ 3 _ _ (0, 0) (heap_alloc_new w _)]; rfl
  have hws : W0.heap.size = w.heap.size + 1 := by rw [hW0]; simp
  have HB0 := hide (show Below w.heap.size w W0 by rw [hW0]; exact bl_alloc (bl_refl w) _)
  have HC := hide (fun (wx : World) (hb : Below W0.heap.size W0 wx) => show wx.cell? ⟨w.heap.size, 0, none⟩ = some (.slice a1 n1 c1) ∧ wx.cell? ⟨w.heap.size, 1, none⟩ = some (.slice a2 n2 c2) ∧ wx.cell? ⟨w.heap.size, 2, none⟩ = some (.slice a3 n3 c3) ∧ wx.cell? ⟨w.heap.size, 3, none⟩ = some (.slice a4 n4 c4) from
    ⟨(hb.cell (lt_heap z0)).trans z0, (hb.cell (lt_heap z1)).trans z1, (hb.cell (lt_heap z2)).trans z2, (hb.cell (lt_heap z3)).trans z3⟩)
  obtain ⟨bx, hbx⟩ : ∃ bx, bx = w.heap.size := ⟨_, rfl⟩
  go_wp2_with fail
  rw [← hW0, ← hbx]
  rw [← hbx] at HC
  have HBX := hide hbx
  clear z0 z1 z2 z3 hW0 hbx
  refine (HRC.out W0 HB0.out).mono ?_
  rintro e w1 ⟨rfl, hb1⟩
  have HW1 := hide hb1
  have HB1 := hide (HB0.out.trans (hb1.mono HB0.out.size))
  obtain ⟨z0, z1, z2, z3⟩ := HC.out w1 hb1
  clear hb1
  go_wp2_with fail
  refine (HDI.out w1 HB1.out).mono ?_
  rintro e w2 ⟨rfl, hb2⟩
  have HW2 := hide (HW1.out.trans (hb2.mono HW1.out.size))
  have HB2 := hide (HB1.out.trans (hb2.mono HB1.out.size))
  clear z0 z1 z2 z3 hb2
  obtain ⟨z0, z1, z2, z3⟩ := HC.out w2 HW2.out
  cases r1 with
  | false =>
    obtain rfl := HNO.out (valid_no (fun h => by have h5 := h.1; rw [← HL.out.1, ← HR1.out] at h5; cases h5))
    go_wp2
    go_ret
    exact ⟨rfl, HB2.out⟩
  | true =>
  go_wp2_with fail
  refine (HDU.out w2 HB2.out).mono ?_
  rintro e w3 ⟨rfl, hb3⟩
  have HW3 := hide (HW2.out.trans (hb3.mono HW2.out.size))
  have HB3 := hide (HB2.out.trans (hb3.mono HB2.out.size))
  clear z0 z1 z2 z3 hb3
  obtain ⟨z0, z1, z2, z3⟩ := HC.out w3 HW3.out
  cases r2 with
  | false =>
    obtain rfl := HNO.out (valid_no (fun h => by have h5 := h.2.1; rw [← HL.out.1, ← HR2.out] at h5; cases h5))
    go_wp2
    go_ret
    exact ⟨rfl, HB3.out⟩
  | true =>
  by_cases hf0 : fm < 0
  · obtain rfl := HNO.out (valid_no (fun h => by have h5 := h.2.2.1; rw [← HFM.out] at h5; omega))
    go_wp2
    go_ret
    exact ⟨rfl, HB3.out⟩
  have HK0 := hide (show ∀ e ∈ d.dur.take 0, e.2 < fm from by simp)
  go_wp2_with fail
  clear z0 z1 z2 z3
  go_loopw [44] (fun kv wr => ∃ k : Nat, kv = .int .i64 (k : Int) ∧ k ≤ n3 ∧ Hid (∀ e ∈ d.dur.take k, e.2 < fm) ∧ Hid (Below W0.heap.size W0 wr)) (fun kv _ => n3 - (intOf kv).toNat)
  case atStart => exact ⟨0, rfl, by omega, HK0, HW3⟩
  case round =>
    obtain ⟨k, rfl, hk, HK, HW⟩ := hrel
    have HB := hide (HB0.out.trans (HW.out.mono HB0.out.size))
    by_cases hlt : k < n3
    · obtain ⟨b, o, s, x, rfl, hbl, hx, e0, e1⟩ := (H3.out.below HB.out).at_ hlt
      have hkn : (k : Int) < (n3 : Int) := by omega
      have HX := hide hx
      have HBN := hide (bl_alloc HB.out (.cells #[.string (bstr s), .int .i64 x] 35))
      have HWN := hide (bl_alloc HW.out (.cells #[.string (bstr s), .int .i64 x] 35))
      clear hx hbl
      by_cases hge : fm ≤ x
      · obtain rfl := HNO.out (valid_no (fun h => by have h5 := h.2.2.2.1 _ (List.mem_of_getElem? HX.out); rw [← HFM.out] at h5; simp only [] at h5; omega))
        go_wp2
        go_ret
        exact ⟨rfl, HBN.out⟩
      · have HK2 := hide (show ∀ e ∈ d.dur.take (k + 1), e.2 < fm by
          intro e he
          rw [List.take_add_one, HX.out] at he
          rcases List.mem_append.1 he with h | h
          · exact HK.out e h
          · simp at h; subst h; simp only []; omega)
        go_wp2
        go_roundw
        case rel => exact ⟨k + 1, by go_num, by omega, HK2, HWN⟩
        case measure => simp [intOf]; omega
    · have HDUR := hide (show ∀ e ∈ d.dur, e.2 < fm by
        have h5 := HK.out
        rwa [List.take_of_length_le (by rw [← HL.out.2.2.1]; omega)] at h5)
      have hkn : ¬ (k : Int) < (n3 : Int) := by omega
      obtain ⟨z0, z1, z2, z3⟩ := HC.out wr HW.out
      have HI0 := hide (show ∀ i x, i < 0 → d.inodes[i]? = some x → inodeM d fm i x = true from fun i x h => absurd h (by omega))
      clear HK
      go_wp2_with fail
      clear z0 z1 z2 z3
      go_loopw [56] (fun kv wr => ∃ k : Nat, kv = .int .i64 (k : Int) ∧ k ≤ n1 ∧ Hid (∀ i x, i < k → d.inodes[i]? = some x → inodeM d fm i x = true) ∧ Hid (Below W0.heap.size W0 wr)) (fun kv _ => n1 - (intOf kv).toNat)
      case atStart => exact ⟨0, rfl, by omega, HI0, HW⟩
      case round =>
        obtain ⟨k, rfl, hk, HK, HW⟩ := hrel
        have HB := hide (HB0.out.trans (HW.out.mono HB0.out.size))
        by_cases hlt : k < n1
        · obtain ⟨b, o, s, y, rfl, hbl, hx, e0, e1⟩ := (H1.out.below HB.out).at_ hlt
          have hkn : (k : Int) < (n1 : Int) := by omega
          have HX := hide hx
          obtain ⟨wa, hwa⟩ : ∃ wa, wa = wr.alloc (.cells #[.string (bstr s), .int .i64 y] 33) := ⟨_, rfl⟩
          have HWA := hide (show Below W0.heap.size W0 wa by rw [hwa]; exact bl_alloc HW.out _)
          have y0 : wa.cell? ⟨wr.heap.size, 0, none⟩ = some (.string (bstr s)) := by rw [hwa, cell_of_row _ _ 0 _ _ (0, 0) (heap_alloc_new wr _)]; rfl
          have y1 : wa.cell? ⟨wr.heap.size, 1, none⟩ = some (.int .i64 y) := by rw [hwa, cell_of_row _ _ 1 _ _ (0, 0) (heap_alloc_new wr _)]; rfl
          have HY := hide (fun (wx : World) (hb : Below wa.heap.size wa wx) => show wx.cell? ⟨wr.heap.size, 0, none⟩ = some (.string (bstr s)) ∧ wx.cell? ⟨wr.heap.size, 1, none⟩ = some (.int .i64 y) from ⟨(hb.cell (lt_heap y0)).trans y0, (hb.cell (lt_heap y1)).trans y1⟩)
          have z : wr.heap.size < wa.heap.size := by rw [hwa]; simp
          have HZ := hide (fun (wx : World) (hb : Below wa.heap.size wa wx) => HC.out wx (HWA.out.trans (hb.mono HWA.out.size)))
          obtain ⟨gb, hgb⟩ : ∃ gb, gb = wr.heap.size := ⟨_, rfl⟩
          obtain ⟨z0, z1, z2, z3⟩ := HC.out wr HW.out
          have HZ1 := hide (HZ.out wa (bl_refl wa))
          have hbw : bx < wr.heap.size := lt_heap z1
          clear hx hbl y0 y1 z0 z1 z2 z3
          obtain ⟨fl, hfl⟩ : ∃ fl, fl = decide (fm ≤ (k : Int)) := ⟨_, rfl⟩
          have hfl' := hfl.symm
          have HFL := hide hfl
          have HA0 := hide (show fl = (fl || (d.dir.take 0).any (fun e => e.2 == (k : Int))) by simp)
          have HRA := hide (bl_refl wa)
          clear hfl
          obtain ⟨z0, z1, z2, z3⟩ := HZ1.out
          have z1' : (wr.alloc (.cells #[.string (bstr s), .int .i64 y] 33)).cell? ⟨bx, 1, none⟩ = some (.slice a2 n2 c2) := by rw [← hwa]; exact z1
          clear z0 z1 z2 z3
          go_wp2_with fail
          rw [← hwa, ← hgb]
          rw [← hgb] at HY z
          have HGB := hide (And.intro hgb hbw)
          clear z1' hfl' hwa hgb e0 e1
          go_loopw [9, 67] (fun fv jv wr => ∃ (j : Nat) (f : Bool), jv = .int .i64 (j : Int) ∧ fv = .bool f ∧ j ≤ n2 ∧ Hid (f = (fl || (d.dir.take j).any (fun e => e.2 == (k : Int)))) ∧ Hid (Below wa.heap.size wa wr)) (fun _ jv _ => n2 - (intOf jv).toNat)
          case atStart => exact ⟨0, fl, rfl, rfl, by omega, HA0, HRA⟩
          case round =>
            obtain ⟨j, f, rfl, rfl, hj, HF, HV⟩ := hrel
            have HBV := hide (HB0.out.trans ((HWA.out.trans (HV.out.mono HWA.out.size)).mono HB0.out.size))
            by_cases hjl : j < n2
            · obtain ⟨b', o', t, x, rfl, hbl', hx, e0, e1⟩ := (H2.out.below HBV.out).at_ hjl
              have hjn : (j : Int) < (n2 : Int) := by omega
              have hat := any_take hx (fun e => e.2 == (k : Int))
              have HVN := hide (bl_alloc HV.out (.cells #[.string (bstr t), .int .i64 x] 35))
              obtain ⟨g, hg⟩ : ∃ g, g = (x == (k : Int)) := ⟨_, rfl⟩
              have HF2 := hide (show (f || g) = (fl || (d.dir.take (j + 1)).any (fun e => e.2 == (k : Int))) by rw [hat, ← Bool.or_assoc, ← HF.out, hg])
              have hg' := hg.symm
              clear hx hbl' hat hg
              cases f
              all_goals go_wp2
              all_goals go_roundw
              all_goals first
              | exact ⟨j + 1, g, by go_num, rfl, by omega, HF2, HVN⟩
              | exact ⟨j + 1, true, by go_num, rfl, by omega, HF2, HVN⟩
              | (simp [intOf]; omega)
            · have HF1 := hide (show f = (fl || d.dir.any (fun e => e.2 == (k : Int))) by
                have h5 := HF.out
                rwa [List.take_of_length_le (by rw [← HL.out.2.1]; omega)] at h5)
              have hjn : ¬ (j : Int) < (n2 : Int) := by omega
              have HG0 := hide (show f = (f || (d.dur.take 0).any (fun e => e.2 == (k : Int))) by simp)
              obtain ⟨z0, z1, z2, z3⟩ := HZ.out wr HV.out
              go_wp2_with fail
              clear z0 z1 z2 z3
              go_loopw [9, 82] (fun fv jv wr => ∃ (j : Nat) (q : Bool), jv = .int .i64 (j : Int) ∧ fv = .bool q ∧ j ≤ n3 ∧ Hid (q = (f || (d.dur.take j).any (fun e => e.2 == (k : Int)))) ∧ Hid (Below wa.heap.size wa wr)) (fun _ jv _ => n3 - (intOf jv).toNat)
              case atStart => exact ⟨0, f, rfl, rfl, by omega, HG0, HV⟩
              case round =>
                obtain ⟨j, q, rfl, rfl, hj, HQ, HV⟩ := hrel
                have HWV := hide (HWA.out.trans (HV.out.mono HWA.out.size))
                have HBV := hide (HB0.out.trans (HWV.out.mono HB0.out.size))
                by_cases hjl : j < n3
                · obtain ⟨b', o', t, x, rfl, hbl', hx, e0, e1⟩ := (H3.out.below HBV.out).at_ hjl
                  have hjn : (j : Int) < (n3 : Int) := by omega
                  have hat := any_take hx (fun e => e.2 == (k : Int))
                  have HVN := hide (bl_alloc HV.out (.cells #[.string (bstr t), .int .i64 x] 35))
                  obtain ⟨g, hg⟩ : ∃ g, g = (x == (k : Int)) := ⟨_, rfl⟩
                  have HF2 := hide (show (q || g) = (f || (d.dur.take (j + 1)).any (fun e => e.2 == (k : Int))) by rw [hat, ← Bool.or_assoc, ← HQ.out, hg])
                  have hg' := hg.symm
                  clear hx hbl' hat hg
                  cases q
                  all_goals go_wp2
                  all_goals go_roundw
                  all_goals first
                  | exact ⟨j + 1, g, by go_num, rfl, by omega, HF2, HVN⟩
                  | exact ⟨j + 1, true, by go_num, rfl, by omega, HF2, HVN⟩
                  | (simp [intOf]; omega)
                · have hq := HQ.out
                  rw [List.take_of_length_le (by rw [← HL.out.2.2.1]; omega), HF1.out, HFL.out] at hq
                  have hjn : ¬ (j : Int) < (n3 : Int) := by omega
                  obtain ⟨m, hm⟩ : ∃ m, m = s.length := ⟨_, rfl⟩
                  have hsz : (bstr s).size = m := by rw [hm]; rfl
                  have HIM := hide (show inodeM d fm k (s, y) = (q && decide (0 ≤ y) && decide (y ≤ (m : Int)) && decide (m ≤ 1048576)) by unfold inodeM; rw [hq, hm])
                  obtain ⟨y0, y1⟩ := HY.out wr HV.out
                  have HBAD := hide (fun (hb : inodeM d fm k (s, y) = false) => show er = 9 from HNO.out (valid_no (fun h => by have h5 := h.2.2.2.2.1 k (s, y) HX.out; rw [← HFM.out, hb] at h5; cases h5)))
                  clear hq hm
                  cases q with
                  | false =>
                    obtain rfl := HBAD.out (by rw [HIM.out]; rfl)
                    go_wp2
                    go_ret
                    exact ⟨rfl, HBV.out⟩
                  | true =>
                  by_cases hy0 : y < 0
                  · obtain rfl := HBAD.out (by rw [HIM.out, decide_eq_false (show ¬ 0 ≤ y by omega)]; rfl)
                    go_wp2
                    go_ret
                    exact ⟨rfl, HBV.out⟩
                  by_cases hym : (m : Int) < y
                  · obtain rfl := HBAD.out (by rw [HIM.out, decide_eq_false (show ¬ y ≤ (m : Int) by omega)]; simp)
                    go_wp2
                    go_ret
                    exact ⟨rfl, HBV.out⟩
                  by_cases hmb : 1048576 < m
                  · obtain rfl := HBAD.out (by rw [HIM.out, decide_eq_false (show ¬ m ≤ 1048576 by omega)]; simp)
                    have hmb' : (1048576 : Int) < (m : Int) := by omega
                    go_wp2
                    go_ret
                    exact ⟨rfl, HBV.out⟩
                  have hmb' : ¬ (1048576 : Int) < (m : Int) := by omega
                  have HK2 := hide (show ∀ i x, i < k + 1 → d.inodes[i]? = some x → inodeM d fm i x = true from fun i x hi hx => by
                    by_cases hik : i = k
                    · subst hik
                      rw [HX.out] at hx; injection hx with hx; subst hx
                      rw [HIM.out, decide_eq_true (show 0 ≤ y by omega), decide_eq_true (show y ≤ (m : Int) by omega), decide_eq_true (show m ≤ 1048576 by omega)]; rfl
                    · exact HK.out i x (by omega) hx)
                  go_wp2
                  go_roundw
                  case rel => exact ⟨k + 1, by go_num, by omega, HK2, HWV⟩
                  case measure => simp [intOf]; omega
        · have HINO := hide (show ∀ i x, d.inodes[i]? = some x → inodeM d fm i x = true from fun i x hx => HK.out i x (by have := (List.getElem?_eq_some_iff.1 hx).1; rw [← HL.out.1] at this; omega) hx)
          have hkn : ¬ (k : Int) < (n1 : Int) := by omega
          obtain ⟨z0, z1, z2, z3⟩ := HC.out wr HW.out
          have HREP := hide (rreplay_any _ d n4 wr (HD0.out.below HB.out) (by rw [HL.out.2.2.2]; exact Nat.le_refl _) ⟨HS.out.1, HS.out.2.2.1, HS.out.2.2.2⟩ (dir_nn (n := n1) HR2.out.symm) (by rw [← HFM.out]; omega))
          rw [List.take_of_length_le (show d.ops.length ≤ n4 by rw [HL.out.2.2.2]; exact Nat.le_refl _), ← HFM.out] at HREP
          go_wp2_with fail
          refine HREP.out.mono ?_
          rintro e w5 ⟨hb5, hno, hyes⟩
          have HW5 := hide (HW.out.trans (hb5.mono HW.out.size))
          have HB5 := hide (HB.out.trans (hb5.mono HB.out.size))
          clear z0 z1 z2 z3
          obtain ⟨z0, z1, z2, z3⟩ := HC.out w5 HW5.out
          cases hrp : repM d.dur fm d.ops with
          | none =>
            obtain rfl := hno hrp
            obtain rfl := HNO.out (valid_no (fun h => by have h5 := h.2.2.2.2.2; rw [← HFM.out, hrp] at h5; cases h5))
            clear hno hyes hb5 hrp
            go_wp2
            go_ret
            exact ⟨rfl, HB5.out⟩
          | some l =>
            obtain ⟨v5, rfl, ho5⟩ := hyes l hrp
            have HRP := hide hrp
            obtain ⟨A5, c5, rfl, hc5, hm5, hr5⟩ := own_RE ho5 rfl
            have HR5 := hide hr5
            obtain ⟨ln, hln⟩ : ∃ ln, ln = l.length := ⟨_, rfl⟩
            have HLN := hide hln
            rw [← hln] at HR5 hc5 ⊢
            clear hno hyes hb5 hrp ho5 hr5 hln hm5
            by_cases hlen : ln = n2
            · subst hlen
              have HE0 := hide (show l.take 0 = d.dir.take 0 by simp)
              have HR0 := hide (bl_refl w5)
              go_wp2_with fail
              clear z0 z1 z2 z3
              go_loopw [136] (fun jv wr => ∃ j : Nat, jv = .int .i64 (j : Int) ∧ j ≤ ln ∧ Hid (l.take j = d.dir.take j) ∧ Hid (Below w5.heap.size w5 wr)) (fun jv _ => ln - (intOf jv).toNat)
              case atStart => exact ⟨0, rfl, by omega, HE0, HR0⟩
              case round =>
                obtain ⟨j, rfl, hj, HE, HV⟩ := hrel
                have HWV := hide (HW5.out.trans (HV.out.mono HW5.out.size))
                have HBV := hide (HB0.out.trans (HWV.out.mono HB0.out.size))
                by_cases hjl : j < ln
                · obtain ⟨b', o', s, x, rfl, hbl', hx, e0, e1⟩ := (HR5.out.below HV.out).at_ hjl
                  obtain ⟨b'', o'', t, y, rfl, hbl'', hy, g0, g1⟩ := (H2.out.below HBV.out).at_ hjl
                  have hjn : (j : Int) < (ln : Int) := by omega
                  obtain ⟨z0, z1, z2, z3⟩ := HC.out wr HWV.out
                  have HX := hide hx
                  have HY := hide hy
                  clear hx hy hbl' hbl'' z0 z2 z3
                  go_wp2_with fail
                  have f0 : ∀ wx, CB wr.drew wx → wx.cell? ⟨b', o' + j * 2, none⟩ = some (.string (bstr s)) := fun wx h => h.cell e0
                  have f1 : ∀ wx, CB wr.drew wx → wx.cell? ⟨b', o' + j * 2 + 1, none⟩ = some (.int .i64 x) := fun wx h => h.cell e1
                  have f2 : ∀ wx, CB wr.drew wx → wx.cell? ⟨b'', o'' + j * 2, none⟩ = some (.string (bstr t)) := fun wx h => h.cell g0
                  have f3 : ∀ wx, CB wr.drew wx → wx.cell? ⟨b'', o'' + j * 2 + 1, none⟩ = some (.int .i64 y) := fun wx h => h.cell g1
                  have f4 : ∀ wx, CB wr.drew wx → wx.cell? ⟨bx, 1, none⟩ = some (.slice (some ⟨b'', o'', none⟩) ln c2) := fun wx h => h.cell z1
                  by_cases hst : s = t
                  · by_cases hxy : x = y
                    · have HE2 := hide (show l.take (j + 1) = d.dir.take (j + 1) by rw [List.take_add_one, List.take_add_one, HE.out, HX.out, HY.out, hst, hxy])
                      subst hst hxy
                      refine wp_region_K 10 (by kernel_rfl) (by kernel_rfl) (fun Q HQ => ?_)
                      simp only [List.take_succ_cons, List.take_zero, List.map_cons, List.map_nil]
                      repeat
                        first
                        | (refine wpS_skip (b := true) rfl (guard_mk rfl rfl) ?_)
                        | (refine wpS_skip (b := false) rfl (guard_mk rfl rfl) ?_)
                        | (refine wpS_skipU rfl (guardU_mk rfl rfl) ?_)
                        | (first | apply wpS_c rfl | apply wpS_gc rfl (guard_mk rfl rfl)
                           focus
                             intro ev wx hC hx
                             (try simp [Op.operands, Call.operands, opndS, Slot.holds] at hx)
                             go_simp
                             try (first | exact rfl | exact ⟨Below.refl _ _, rfl⟩)
                             done)
                        dsimp only [setS, List.set]
                      refine wpS_nil (HQ _ fun w6 hC6 => ?_)
                      simp only [closeS, List.drop_succ_cons, List.drop_zero, List.drop_nil]
                      have HV6 := hide (HV.out.trans (hC6.below.mono HV.out.size))
                      have HB6 := hide (HBV.out.trans (hC6.below.mono HBV.out.size))
                      clear HQ hC6
                      go_wp2
                      go_roundw
                      case rel => exact ⟨j + 1, by go_num, by omega, HE2, HV6⟩
                      case measure => simp [intOf]; omega
                    · obtain rfl := HNO.out (valid_no (fun h => by have h5 := h.2.2.2.2.2; rw [← HFM.out, HRP.out] at h5; injection h5 with h5; have h6 := HX.out; rw [h5, HY.out] at h6; injection h6 with h6; injection h6 with h6 h7; exact hxy h7.symm))
                      subst hst
                      refine wp_region_K 10 (by kernel_rfl) (by kernel_rfl) (fun Q HQ => ?_)
                      simp only [List.take_succ_cons, List.take_zero, List.map_cons, List.map_nil]
                      repeat
                        first
                        | (refine wpS_skip (b := true) rfl (guard_mk rfl rfl) ?_)
                        | (refine wpS_skip (b := false) rfl (guard_mk rfl rfl) ?_)
                        | (refine wpS_skipU rfl (guardU_mk rfl rfl) ?_)
                        | (first | apply wpS_c rfl | apply wpS_gc rfl (guard_mk rfl rfl)
                           focus
                             intro ev wx hC hx
                             (try simp [Op.operands, Call.operands, opndS, Slot.holds] at hx)
                             go_simp
                             try (first | exact rfl | exact ⟨Below.refl _ _, rfl⟩)
                             done)
                        dsimp only [setS, List.set]
                      refine wpS_nil (HQ _ fun w6 hC6 => ?_)
                      simp only [closeS, List.drop_succ_cons, List.drop_zero, List.drop_nil]
                      have HV6 := hide (HV.out.trans (hC6.below.mono HV.out.size))
                      have HB6 := hide (HBV.out.trans (hC6.below.mono HBV.out.size))
                      clear HQ hC6
                      go_wp2
                      go_ret
                      exact ⟨rfl, HB6.out⟩
                  · obtain rfl := HNO.out (valid_no (fun h => by have h5 := h.2.2.2.2.2; rw [← HFM.out, HRP.out] at h5; injection h5 with h5; have h6 := HX.out; rw [h5, HY.out] at h6; injection h6 with h6; injection h6 with h6 h7; exact hst h6.symm))
                    refine wp_region_K 10 (by kernel_rfl) (by kernel_rfl) (fun Q HQ => ?_)
                    simp only [List.take_succ_cons, List.take_zero, List.map_cons, List.map_nil]
                    repeat
                      first
                      | (refine wpS_skip (b := true) rfl (guard_mk rfl rfl) ?_)
                      | (refine wpS_skip (b := false) rfl (guard_mk rfl rfl) ?_)
                      | (refine wpS_skipU rfl (guardU_mk rfl rfl) ?_)
                      | (first | apply wpS_c rfl | apply wpS_gc rfl (guard_mk rfl rfl)
                         focus
                           intro ev wx hC hx
                           (try simp [Op.operands, Call.operands, opndS, Slot.holds] at hx)
                           go_simp
                           try (first | exact rfl | exact ⟨Below.refl _ _, rfl⟩)
                           done)
                      dsimp only [setS, List.set]
                    refine wpS_nil (HQ _ fun w6 hC6 => ?_)
                    simp only [closeS, List.drop_succ_cons, List.drop_zero, List.drop_nil]
                    have HV6 := hide (HV.out.trans (hC6.below.mono HV.out.size))
                    have HB6 := hide (HBV.out.trans (hC6.below.mono HBV.out.size))
                    clear HQ hC6
                    go_wp2
                    go_ret
                    exact ⟨rfl, HB6.out⟩
                · have hld : l = d.dir := by
                    have h5 := HE.out
                    rwa [List.take_of_length_le (by rw [← HLN.out]; omega), List.take_of_length_le (by rw [← HL.out.2.1]; omega)] at h5
                  obtain rfl := HYES.out ((valid_iff d).2 ⟨by rw [← HL.out.1]; exact HR1.out.symm, by rw [← HL.out.1]; exact HR2.out.symm, by rw [← HFM.out]; omega, by rw [← HFM.out]; exact HDUR.out, by rw [← HFM.out]; exact HINO.out, by rw [← HFM.out, HRP.out, hld]⟩)
                  have hjn : ¬ (j : Int) < (ln : Int) := by omega
                  clear hld
                  go_wp2
                  go_ret
                  exact ⟨rfl, HBV.out⟩
            · have hne : ((ln : Int) == (n2 : Int)) = false := by rw [beq_eq_false_iff_ne]; omega
              have hnf : ((ln : Int) != (n2 : Int)) = true := by simp only [bne, hne]; rfl
              obtain rfl := HNO.out (valid_no (fun h => by have h5 := h.2.2.2.2.2; rw [← HFM.out, HRP.out] at h5; injection h5 with h5; rw [h5, ← HL.out.2.1] at HLN; exact hlen HLN.out))
              clear hlen
              go_wp2
              go_ret
              exact ⟨rfl, HB5.out⟩
end Go.Proofs.Ytjpmfiicbokdcaa
