/- The walks of the program's List and Read. -/
import Derived.Test.YtjpmfiicbokdcaaDyW
namespace Go.Proofs.Ytjpmfiicbokdcaa
open Go.RowKit
set_option linter.unusedVariables false
set_option linter.unusedSimpArgs false
set_option maxHeartbeats 16000000 in
set_option maxRecDepth 100000 in
theorem list_any (v : Value) (d : Dsk) (w : World) (h : IsD w v d) (hs : szD d) :
    Calls Try.prog 24 #[v] w fun e w' => ∃ u, e = .returned u ∧ w'.ownsRow w.heap.size 9 1 u (listM d).length (encS (listM d)) ∧ Below w.heap.size w w' := by
  obtain ⟨a1, n1, c1, a2, n2, c2, a3, n3, c3, a4, n4, c4, rfl, h1, h2, h3, h4, -⟩ := h.h
  have H2 := hide h2
  have hn2 : n2 ≤ 100000 := by rw [h2.1]; exact hs.2.1
  have HL := hide h2.1
  obtain ⟨i0, hi0, hz0, hz1, hz2⟩ := info_parts info_str
  obtain ⟨r, hr⟩ : ∃ r, r = listM d := ⟨_, rfl⟩
  have HR := hide hr
  rw [← hr]
  have HV := hide (fun (wx : World) (hb : Below w.heap.size w wx) => validate_any _ d wx (h.below hb) hs)
  obtain ⟨er, her⟩ : ∃ er, er = errM d := ⟨_, rfl⟩
  have HER := hide her
  rw [← her] at HV
  clear h h1 h2 h3 h4 hr hs her
  go_enter Try.func24, Try.ntmps24
  obtain ⟨W0, hW0⟩ : ∃ W0, W0 = w.alloc (.cells #[.slice a1 n1 c1, .slice a2 n2 c2, .slice a3 n3 c3, .slice a4 n4 c4] 27) := ⟨_, rfl⟩
  have z1 : W0.cell? ⟨w.heap.size, 1, none⟩ = some (.slice a2 n2 c2) := by rw [hW0, cell_of_row _ _ 1 _ _ (0, 0) (heap_alloc_new w _)]; rfl
  have HB0 := hide (show Below w.heap.size w W0 by rw [hW0]; exact bl_alloc (bl_refl w) _)
  have HC := hide (fun (wx : World) (hb : Below W0.heap.size W0 wx) => show wx.cell? ⟨w.heap.size, 1, none⟩ = some (.slice a2 n2 c2) from (hb.cell (lt_heap z1)).trans z1)
  obtain ⟨bx, hbx⟩ : ∃ bx, bx = w.heap.size := ⟨_, rfl⟩
  go_wp2_with fail
  rw [← hW0, ← hbx]
  rw [← hbx] at HC
  have HBX := hide hbx
  clear z1 hW0 hbx
  refine (HV.out W0 HB0.out).mono ?_
  rintro e w1 ⟨rfl, hb1⟩
  have HB1 := hide (HB0.out.trans (hb1.mono HB0.out.size))
  have z1 := HC.out w1 hb1
  clear hb1
  cases hvd : validM d with
  | false =>
    obtain rfl : er = 9 := by rw [HER.out]; unfold errM; rw [hvd]; rfl
    obtain rfl : r = [] := by rw [HR.out]; unfold listM; rw [hvd]; rfl
    clear hvd
    go_wp2
    go_ret
    exact ⟨_, rfl, ⟨rfl, .inl ⟨rfl, rfl⟩⟩, HB1.out⟩
  | true =>
    obtain rfl : er = 0 := by rw [HER.out]; unfold errM; rw [hvd]; rfl
    have HRR := hide (show r = d.dir.map (·.1) by rw [HR.out]; unfold listM; rw [hvd]; rfl)
    clear hvd
    have HO0 := hide (show w1.ownsRow w.heap.size 9 1 (.slice none 0 0) 0 (encS ((d.dir.take 0).map (·.1))) from ⟨rfl, .inl ⟨rfl, rfl⟩⟩)
    go_wp2_with fail
    clear z1
    go_loopw [3, 12] (fun ov kv wr => ∃ k : Nat, kv = .int .i64 (k : Int) ∧ k ≤ n2 ∧ Hid (wr.ownsRow w.heap.size 9 1 ov k (encS ((d.dir.take k).map (·.1)))) ∧ Hid (Below w.heap.size w wr)) (fun _ kv _ => n2 - (intOf kv).toNat)
    case atStart => exact ⟨0, rfl, by omega, HO0, HB1⟩
    case round =>
      obtain ⟨k, rfl, hk, HO, HB⟩ := hrel
      by_cases hlt : k < n2
      · obtain ⟨b, o, t, x, rfl, hbl, hx, e0, e1⟩ := (H2.out.below HB.out).at_ hlt
        have hkn : (k : Int) < (n2 : Int) := by omega
        have HN := hide (names_take hx)
        have HO1 := hide (ownG_below HO.out (bl_alloc (bl_refl wr) (.cells #[.string (bstr t), .int .i64 x] 35)))
        have HB2 := hide (bl_alloc HB.out (.cells #[.string (bstr t), .int .i64 x] 35))
        clear hx hbl
        go_wp2_with (at_builtin; go_loud (refine wpList_append_rd _ rfl (.tmp 16) (.tmp 19) 49 rfl w.heap.size 9 i0 _ 1 16 Try.underlying49 hi0 hz0 hz1 hz2 rfl (by omega) _ _ _ rfl (ownG_below HO1.out (bl_alloc (bl_refl _) _)) _ 1 _ (encS [t]) rfl rfl (rd_strG (by simp) t _) (encS_one _) (by simp only [maxLen]; omega) (by omega) (by have := HB2.out.size; simp at this ⊢; omega) ?_); intro v7 w7 ho7 hg7 hat7)
        have HO2 := hide (show w7.ownsRow w.heap.size 9 1 v7 (k + 1) (encS ((d.dir.take (k + 1)).map (·.1))) by
          rw [HN.out]; exact ho7)
        have HB3 := hide (bl_grown (bl_alloc HB2.out (.cells #[.string (bstr t)] 9)) hg7 (fun j hj => (ownG_lt HO1.out hj).1))
        clear ho7 hg7 hat7
        go_roundw
        case rel => exact ⟨k + 1, by go_num, by omega, HO2, HB3⟩
        case measure => simp [intOf]; omega
      · obtain rfl : k = n2 := by omega
        have hkn : ¬ (k : Int) < (k : Int) := by omega
        have HO1 := HO
        rw [List.take_of_length_le (by rw [← HL.out]; exact Nat.le_refl _), ← HRR.out] at HO1
        have HK := hide (show k = r.length by rw [HRR.out, List.length_map, HL.out])
        have HO2 := hide (show wr.ownsRow w.heap.size 9 1 u3 r.length (encS r) by rw [← HK.out]; exact HO1.out)
        clear HO HO1
        go_wp2
        go_ret
        exact ⟨_, rfl, HO2.out, HB.out⟩
set_option maxHeartbeats 16000000 in
set_option maxRecDepth 100000 in
theorem read_any (v : Value) (d : Dsk) (s : List UInt8) (w : World) (h : IsD w v d) (hs : szD d) :
    Calls Try.prog 26 #[v, .string (bstr s)] w fun e w' => e = .returned (.tuple #[.string (bstr (readM d s).1), .int .i64 (((readM d s).2 : Nat) : Int)]) ∧ Below w.heap.size w w' := by
  have HD0 := hide h
  obtain ⟨a1, n1, c1, a2, n2, c2, a3, n3, c3, a4, n4, c4, rfl, h1, h2, h3, h4, -⟩ := h.h
  have H1 := hide h1
  have hn1 : n1 ≤ 100000 := by rw [h1.1]; exact hs.1
  have hn2 : n2 ≤ 100000 := by rw [h2.1]; exact hs.2.1
  have HL := hide (show n1 = d.inodes.length from h1.1)
  obtain ⟨r, hr⟩ : ∃ r, r = readM d s := ⟨_, rfl⟩
  have HR := hide hr
  rw [← hr]
  have HV := hide (fun (wx : World) (hb : Below w.heap.size w wx) => validate_any _ d wx (h.below hb) hs)
  have H2 := hide h2
  obtain ⟨er, her⟩ : ∃ er, er = errM d := ⟨_, rfl⟩
  have HER := hide her
  rw [← her] at HV
  clear h h1 h2 h3 h4 hr hs her
  go_enter Try.func26, Try.ntmps26
  obtain ⟨W0, hW0⟩ : ∃ W0, W0 = w.alloc (.cells #[.slice a1 n1 c1, .slice a2 n2 c2, .slice a3 n3 c3, .slice a4 n4 c4] 27) := ⟨_, rfl⟩
  have z0 : W0.cell? ⟨w.heap.size, 0, none⟩ = some (.slice a1 n1 c1) := by rw [hW0, cell_of_row _ _ 0 _ _ (0, 0) (heap_alloc_new w _)]; rfl
  have z1 : W0.cell? ⟨w.heap.size, 1, none⟩ = some (.slice a2 n2 c2) := by rw [hW0, cell_of_row _ _ 1 _ _ (0, 0) (heap_alloc_new w _)]; rfl
  have HB0 := hide (show Below w.heap.size w W0 by rw [hW0]; exact bl_alloc (bl_refl w) _)
  have HC := hide (fun (wx : World) (hb : Below W0.heap.size W0 wx) => show wx.cell? ⟨w.heap.size, 0, none⟩ = some (.slice a1 n1 c1) ∧ wx.cell? ⟨w.heap.size, 1, none⟩ = some (.slice a2 n2 c2) from
    ⟨(hb.cell (lt_heap z0)).trans z0, (hb.cell (lt_heap z1)).trans z1⟩)
  obtain ⟨bx, hbx⟩ : ∃ bx, bx = w.heap.size := ⟨_, rfl⟩
  go_wp2_with fail
  rw [← hW0, ← hbx]
  rw [← hbx] at HC
  have HBX := hide hbx
  clear z0 z1 hW0 hbx
  refine (HV.out W0 HB0.out).mono ?_
  rintro e w1 ⟨rfl, hb1⟩
  have HW1 := hide hb1
  have HB1 := hide (HB0.out.trans (hb1.mono HB0.out.size))
  obtain ⟨z0, z1⟩ := HC.out w1 hb1
  clear hb1
  cases hvd : validM d with
  | false =>
    obtain rfl : er = 9 := by rw [HER.out]; unfold errM; rw [hvd]; rfl
    obtain rfl : r = ([], 9) := by rw [HR.out]; unfold readM; rw [if_pos hvd]
    clear hvd
    go_wp2
    go_ret2
    exact ⟨rfl, HB1.out⟩
  | true =>
    obtain rfl : er = 0 := by rw [HER.out]; unfold errM; rw [hvd]; rfl
    have HVD := hide hvd
    clear hvd
    go_wp2_with fail
    have hdir := ((valid_iff d).1 HVD.out).1
    have HDI := hide hdir
    have HF := hide (find_any a2 n2 c2 d.dir s w1 (H2.out.below HB1.out) (by omega) (srt_dir hdir))
    obtain ⟨p, hp⟩ : ∃ p, p = posM d.dir s := ⟨_, rfl⟩
    obtain ⟨hv, hhv⟩ : ∃ hv, hv = hasM d.dir s := ⟨_, rfl⟩
    have HP := hide hp
    have HH := hide hhv
    rw [← hp, ← hhv] at HF
    clear hp hhv hdir
    refine HF.out.mono ?_
    rintro e w2 ⟨rfl, hb2⟩
    have HW2 := hide (HW1.out.trans (hb2.mono HW1.out.size))
    have HB2 := hide (HB1.out.trans (hb2.mono HB1.out.size))
    clear z0 z1 hb2
    obtain ⟨z0, z1⟩ := HC.out w2 HW2.out
    cases hv with
    | true =>
      obtain ⟨q, hq⟩ := has_at (srt_dir HDI.out) HH.out.symm
      have hiq := ino_at (srt_dir HDI.out) hq
      have hlt := ino_lt HDI.out HH.out.symm
      rw [hiq, ← HL.out] at hlt
      rw [← HP.out] at hq
      obtain ⟨k, rfl⟩ : ∃ k : Nat, q = (k : Int) := ⟨q.toNat, by omega⟩
      have hk : k < n1 := by omega
      have hpn : p < n2 := by rw [H2.out.1]; exact (List.getElem?_eq_some_iff.1 hq).1
      obtain ⟨b, o, t, y, rfl, hbl, hx, e0, e1⟩ := (H1.out.below HB2.out).at_ hk
      obtain ⟨b', o', t', y', rfl, hbl', hx', e0', e1'⟩ := (H2.out.below HB2.out).at_ hpn
      obtain rfl : y' = (k : Int) := by rw [hq] at hx'; injection hx' with hx'; injection hx' with _ hx'; exact hx'.symm
      have hkn : (k : Int) < (n1 : Int) := by omega
      have hpi : (p : Int) < (n2 : Int) := by omega
      obtain rfl : r = (t, 0) := by
        rw [HR.out]; unfold readM
        rw [HVD.out, ← HH.out, if_neg (by decide), if_neg (by decide), hiq, Int.toNat_natCast, List.getD_eq_getElem?_getD, hx]; rfl
      have HC5 := hide (fun (wx : World) (hC : CB w2.drew wx) => show wx.cell? ⟨bx, 0, none⟩ = some (.slice (some ⟨b, o, none⟩) n1 c1) ∧ wx.cell? ⟨bx, 1, none⟩ = some (.slice (some ⟨b', o', none⟩) n2 c2) ∧ wx.cell? ⟨b', o' + p * 2 + 1, none⟩ = some (.int .i64 (k : Int)) ∧ wx.cell? ⟨b, o + k * 2, none⟩ = some (.string (bstr t)) from ⟨hC.cell z0, hC.cell z1, hC.cell e1', hC.cell e0⟩)
      clear hlt hx hbl e1 hx' hbl' e0' hiq hq
      go_wp2_with fail
      refine wp_region_K 11 (by kernel_rfl) (by kernel_rfl) (fun Q HQ => ?_)
      simp only [List.take_succ_cons, List.take_zero, List.map_cons, List.map_nil]
      repeat
        first | apply wpS_c rfl | apply wpS_gc rfl (guard_mk rfl rfl)
        focus
          intro ev wx hC hx
          (try simp [Op.operands, Call.operands, opndS, Slot.holds] at hx)
          obtain ⟨k0, k1, k2, k3⟩ := HC5.out wx hC
          go_simp
          try (first | exact rfl | exact ⟨Below.refl _ _, rfl⟩)
          done
        dsimp only [setS, List.set]
      refine wpS_nil (HQ _ fun w4 hC4 => ?_)
      simp only [closeS, List.drop_succ_cons, List.drop_zero, List.drop_nil]
      have HB4 := hide (HB2.out.trans (hC4.below.mono HB2.out.size))
      clear HQ hC4
      go_wp2
      go_ret2
      exact ⟨rfl, HB4.out⟩
    | false =>
      obtain rfl : r = ([], 11) := by rw [HR.out]; unfold readM; rw [HVD.out, if_neg (by decide), if_pos HH.out.symm]
      go_wp2
      go_ret2
      exact ⟨rfl, HB2.out⟩
end Go.Proofs.Ytjpmfiicbokdcaa
