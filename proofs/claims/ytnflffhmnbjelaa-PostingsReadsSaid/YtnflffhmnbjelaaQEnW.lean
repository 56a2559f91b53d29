/- The walk of Encode. -/
import Derived.Test.YtnflffhmnbjelaaQAlW
import Derived.Test.YtnflffhmnbjelaaSealW
import Derived.Test.YtnflffhmnbjelaaUvW
namespace Go.Proofs.Ytnflffhmnbjelaa
open Go.RowKit
set_option linter.unusedVariables false
set_option linter.unusedSimpArgs false
/-- The bytes of an entry of the skip table. -/
def skB (l : List Nat) (j : Nat) : List UInt8 := uv (l.getD (16 * j) 0 - l.getD (16 * (j - 1)) 0) ++ uv (posQ l (16 * j) - posQ l (16 * (j - 1)))
def skBs (l : List Nat) (k : Nat) : List UInt8 := (List.range k).flatMap fun i => skB l (i + 1)
theorem skBs_succ (l : List Nat) (k : Nat) : skBs l (k + 1) = skBs l k ++ skB l (k + 1) := by
  unfold skBs
  rw [List.range_succ, List.flatMap_append]; simp
def heP (l : List Nat) : List UInt8 := uv l.length ++ uv (posQ l l.length) ++ packL (upQ l l.length)
def encP (l : List Nat) : List UInt8 := heP l ++ skBs l ((l.length + 15) / 16 - 1)
def encQ (l : List Nat) : List UInt8 := encP l ++ le32 (crc (encP l))
theorem uv_len (v : Nat) : (uv v).length ≤ 10 := (uvF_length 9 v).2
set_option maxHeartbeats 4000000 in
set_option maxRecDepth 100000 in
theorem encode_any (g : Nat) (l : List Nat) (w : World) (h : LstS w g l) (hok : okQ l) (hl0 : l.length ≤ 4096) :
    Calls Try.prog 20 #[.pointer (some ⟨g, 0, none⟩)] w fun e w' => ∃ v n, e = .returned v ∧ n ≤ 200000 ∧ w'.ownsRow w.heap.size 5 1 v n ((encQ l).map u8v) ∧ Below w.heap.size w w' := by
  have HL := hide h
  have HOK := hide hok
  have hl : l.length ≤ 4096 ∧ posQ l l.length ≤ 819200 := ⟨hl0, by have := posQ_le hok l.length (Nat.le_refl _); omega⟩
  have HSZ := hide hl
  obtain ⟨n, hn⟩ : ∃ n, n = l.length := ⟨_, rfl⟩
  obtain ⟨bt, hbt⟩ : ∃ bt, bt = posQ l l.length := ⟨_, rfl⟩
  have hn3 : n ≤ 5000 := by rw [hn]; omega
  have hb6 : bt ≤ 819200 := by rw [hbt]; exact hl.2
  have HN := hide hn
  have HBT := hide hbt
  obtain ⟨ks, hks⟩ : ∃ ks, ks = (n + 15) / 16 := ⟨_, rfl⟩
  have HKS := hide hks
  have hks20 : ks ≤ 320 := by omega
  have HCEL := hide (fun (wx : World) (hb : Below w.heap.size w wx) => show ∃ B d, wx.cell? ⟨g, 3, none⟩ = some (.slice B ks d) ∧ ∀ i, i < ks → ∃ b o, B = some ⟨b, o, none⟩ ∧ wx.cell? ⟨b, o + i * 2, none⟩ = some (.int .i64 ((l.getD (16 * i) 0 : Nat) : Int)) ∧ wx.cell? ⟨b, o + i * 2 + 1, none⟩ = some (.int .i64 ((posQ l (16 * i) : Nat) : Int)) by
    obtain ⟨A, m, c, B, ks', d, hg, hm, hmc, hr, hk', hkd, hsk⟩ := HL.out.below hb
    rw [skQ_length, ← hn, ← hks] at hk'
    refine ⟨B, d, by rw [← hk']; exact cell_of_row wx g 3 _ _ _ hg, fun i hi => ?_⟩
    have hat := skQ_at l l.length i (by omega)
    obtain ⟨b, o, hB, hbl, e0⟩ := hsk.at_ (sk_get _ i 0 _ _ hat rfl)
    obtain ⟨b', o', hB', _, e1⟩ := hsk.at_ (sk_get _ i 1 _ _ hat rfl)
    rw [hB] at hB'
    injection hB' with q
    injection q with q1 q2
    subst q1 q2
    exact ⟨b, o, hB, e0, by rw [Nat.add_assoc]; exact e1⟩)
  obtain ⟨A, m, c, c0, c1, c2, HR⟩ : ∃ A m c, w.cell? ⟨g, 0, none⟩ = some (.int .i64 (n : Int)) ∧ w.cell? ⟨g, 1, none⟩ = some (.int .i64 (bt : Int)) ∧ w.cell? ⟨g, 2, none⟩ = some (.slice A m c) ∧ Hid (BRd w A (packL (upQ l l.length)) ∧ m = (packL (upQ l l.length)).length ∧ m ≤ 110000) := by
    obtain ⟨A, m, c, B, ks', d, hg, hm, hmc, hr, hk', hkd, hsk⟩ := h
    rw [← hbt, ← hn] at hg
    refine ⟨A, m, c, cell_of_row w g 0 _ _ _ hg, cell_of_row w g 1 _ _ _ hg, cell_of_row w g 2 _ _ _ hg, hide ⟨hr, hm, ?_⟩⟩
    rw [hm, packL_length]
    have : posQ l l.length ≤ 819200 := by rw [← hbt]; exact hb6
    unfold nby
    unfold posQ at this
    omega
  have hgs : g < w.heap.size := by
    obtain ⟨A, m, c, B, ks', d, hg, -⟩ := h
    exact (Array.getElem?_eq_some_iff.1 hg).1
  have HC := hide (fun (wx : World) (hb : Below w.heap.size w wx) => show wx.cell? ⟨g, 1, none⟩ = some (.int .i64 (bt : Int)) ∧ wx.cell? ⟨g, 2, none⟩ = some (.slice A m c) from ⟨(hb.cell hgs).trans c1, (hb.cell hgs).trans c2⟩)
  have ewn : IntKind.u64.wrap (n : Int) = (n : Int) := by rw [IntKind.wrap_u64]; omega
  have ewb : IntKind.u64.wrap (bt : Int) = (bt : Int) := by rw [IntKind.wrap_u64]; omega
  obtain ⟨i0, hi0, hz0, hz1, hz2⟩ := info_parts info_u8
  clear h hok hl hl0 hn hbt hks c1 c2
  go_enter Try.func20, Try.ntmps20
  go_wp2_with fail
  refine (putuv_any none 0 0 _ [] n w rfl (by omega) rfl (by omega) (.inl rfl)).mono ?_
  rintro e w1 ⟨r1, rfl, ho1, hb1⟩
  rw [List.nil_append, Nat.zero_add] at ho1
  obtain ⟨hl1, A1, d1, rfl, hc1, hr1, hn1, -⟩ := own_form ho1
  have hu1 := uv_len n
  have hl1' : (uv n).length ≤ 10 := hu1
  obtain ⟨m1, hm1⟩ : ∃ m1, m1 = (uv n).length := ⟨_, rfl⟩
  rw [← hm1] at ho1 hc1 hl1' ⊢
  have HR1 := hide (show BRd w1 A1 (uv n) from hr1)
  have HM1 := hide hm1
  have HB1 := hide hb1
  obtain ⟨c11, c12⟩ := HC.out w1 HB1.out
  clear ho1 hc1 hn1 hr1 hl1 hu1 hm1 hb1
  go_wp2_with fail
  refine (putuv_any A1 m1 d1 _ (uv n) bt w1 rfl (by omega) HM1.out (by omega) HR1.out).mono ?_
  rintro e w2 ⟨r2, rfl, ho2, hb2⟩
  have HB2 := hide (HB1.out.trans (hb2.mono HB1.out.size))
  obtain ⟨hl2, A2, d2, rfl, hc2, hr2, hn2, -⟩ := own_form ho2
  have hu2 := uv_len bt
  obtain ⟨m2, hm2⟩ : ∃ m2, m2 = m1 + (uv bt).length := ⟨_, rfl⟩
  rw [← hm2] at ho2 hc2 ⊢
  have hm2l : m2 ≤ 20 := by omega
  have HO2 := hide (own_base ho2 HB1.out.size)
  have hm8 : m ≤ 110000 := HR.out.2.2
  have hmR : ((packL (upQ l l.length)).map u8v).length = m * 1 := by rw [List.length_map, Nat.mul_one]; exact HR.out.2.1.symm
  have HMR := hide hmR
  have HRR := hide (show Rd w2 A ((packL (upQ l l.length)).map u8v) from Rd.below HR.out.1 HB2.out)
  obtain ⟨c21, c22⟩ := HC.out w2 HB2.out
  clear ho2 hc2 hn2 hr2 hl2 hu2 hm2 hb2 hmR c11 c12 c21
  go_wp2_with (at_builtin; go_loud (refine wpList_append_rd _ rfl (.tmp 18) (.tmp 22) 42 rfl w.heap.size 5 i0 _ 1 1 Try.underlying42 hi0 hz0 hz1 hz2 rfl (by omega) _ _ _ rfl HO2.out _ m _ _ rfl HMR.out HRR.out (u8s_one _) (by simp only [maxLen]; omega) (by omega) HB2.out.size ?_); intro v3 w3 ho3 hg3 hat3)
  have HO3 : Hid (∃ m, m ≤ 120000 + 20 * 0 ∧ w3.ownsRow w.heap.size 5 1 v3 m ((heP l ++ skBs l 0).map u8v)) := hide ⟨m2 + m, by omega, by
    have e : heP l ++ skBs l 0 = (uv n ++ uv bt) ++ packL (upQ l l.length) := by
      unfold heP skBs
      rw [← HBT.out, ← HN.out]; simp
    rw [e, List.map_append]
    exact ho3⟩
  have HB3 := hide (bl_grown HB2.out hg3 (fun q hq => own_blk HO2.out hq))
  clear ho3 hg3 hat3
  go_loopw [3, 4] (fun bv kv wr => ∃ j : Nat, kv = .int .i64 ((j : Int) + 1) ∧ j ≤ ks - 1 ∧ Hid (∃ m, m ≤ 120000 + 20 * j ∧ wr.ownsRow w.heap.size 5 1 bv m ((heP l ++ skBs l j).map u8v)) ∧ Hid (Below w.heap.size w wr)) (fun _ kv _ => ks - (intOf kv).toNat)
  case atStart => exact ⟨0, rfl, by omega, HO3, HB3⟩
  case round =>
    obtain ⟨j, rfl, hj, HO, HB⟩ := hrel
    obtain ⟨mo, hmo, ho⟩ := HO.out
    obtain ⟨hlo, Ao, dO, rfl, hco, hro, -, -⟩ := own_form ho
    have HRO := hide (show BRd wr Ao (heP l ++ skBs l j) from hro)
    have HLO := hide (show mo = (heP l ++ skBs l j).length by rw [hlo, List.length_map])
    have hj3 : j ≤ 320 := by omega
    have hmo2 : mo ≤ 130000 := by omega
    have HHO := hide ho
    clear hlo hco hro ho HO
    obtain ⟨B, d, c3, hc3⟩ := HCEL.out wr HB.out
    by_cases hlt : j + 1 < ks
    · obtain ⟨b, o, rfl, y1, z1⟩ := hc3 (j + 1) hlt
      obtain ⟨b', o', q, y0, z0⟩ := hc3 j (by omega)
      injection q with q
      injection q with q1 q2
      subst q1 q2
      have hlti : (j : Int) + 1 < (ks : Int) := by omega
      have hlt0 : (j : Int) < (ks : Int) := by omega
      obtain ⟨a1, ha1⟩ : ∃ a1, a1 = l.getD (16 * (j + 1)) 0 := ⟨_, rfl⟩
      obtain ⟨a0, ha0⟩ : ∃ a0, a0 = l.getD (16 * j) 0 := ⟨_, rfl⟩
      obtain ⟨p1, hp1⟩ : ∃ p1, p1 = posQ l (16 * (j + 1)) := ⟨_, rfl⟩
      obtain ⟨p0, hp0⟩ : ∃ p0, p0 = posQ l (16 * j) := ⟨_, rfl⟩
      have ha : a0 ≤ a1 ∧ a1 < 2147483648 := by
        rw [ha0, ha1]
        refine ⟨skip_mono HOK.out (by omega) (by have := HN.out; have := HKS.out; omega), ?_⟩
        obtain ⟨x, hx⟩ : ∃ x, l[16 * (j + 1)]? = some x := ⟨_, List.getElem?_eq_getElem (by have := HN.out; have := HKS.out; omega)⟩
        rw [getD_at hx]
        exact HOK.out.2 x (List.mem_of_getElem? hx)
      have hp : p0 ≤ p1 ∧ p1 ≤ 819200 := by
        rw [hp0, hp1]
        exact ⟨posQ_mono l _ _ (by omega), Nat.le_trans (posQ_mono l _ _ (by have := HN.out; have := HKS.out; omega)) HSZ.out.2⟩
      rw [← ha1] at y1
      rw [← ha0] at y0
      rw [← hp1] at z1
      rw [← hp0] at z0
      have HP1 := hide hp1
      have HP0 := hide hp0
      have HE := hide (show skB l (j + 1) = uv (a1 - a0) ++ uv (p1 - p0) by unfold skB; rw [Nat.add_sub_cancel, ← ha1, ← ha0, ← hp1, ← hp0])
      obtain ⟨da, hda⟩ : ∃ da, da = a1 - a0 := ⟨_, rfl⟩
      obtain ⟨dp, hdp⟩ : ∃ dp, dp = p1 - p0 := ⟨_, rfl⟩
      have eda : (a1 : Int) - (a0 : Int) = (da : Int) := by omega
      have edp : (p1 : Int) - (p0 : Int) = (dp : Int) := by omega
      rw [← hda, ← hdp] at HE
      have hda2 : da < 2147483648 := by omega
      have hdp2 : dp ≤ 819200 := by omega
      have ewa : IntKind.u64.wrap (da : Int) = (da : Int) := by rw [IntKind.wrap_u64]; omega
      have ewp : IntKind.u64.wrap (dp : Int) = (dp : Int) := by rw [IntKind.wrap_u64]; omega
      have ewj : IntKind.i64.wrap (j : Int) = (j : Int) := by rw [IntKind.wrap_i64]; omega
      have ewda : IntKind.i64.wrap (da : Int) = (da : Int) := by rw [IntKind.wrap_i64]; omega
      have ewdp : IntKind.i64.wrap (dp : Int) = (dp : Int) := by rw [IntKind.wrap_i64]; omega
      clear hc3 ha1 ha0 hp1 hp0 hda hdp
      go_wp2_with fail
      refine wp_region_K 20 (by kernel_rfl) (by kernel_rfl) (fun Q HQ => ?_)
      simp only [List.take_succ_cons, List.take_zero, List.map_cons, List.map_nil]
      repeat
        first | apply wpS_c rfl | apply wpS_gc rfl (guard_mk rfl rfl)
        focus
          intro ev wx hC hx
          (try simp [Op.operands, Call.operands, opndS, Slot.holds] at hx)
          have k1 : wx.cell? _ = _ := CB.cell hC (W0 := wr.drew) c3
          have k2 : wx.cell? _ = _ := CB.cell hC (W0 := wr.drew) y1
          have k3 : wx.cell? _ = _ := CB.cell hC (W0 := wr.drew) y0
          go_simp
          try (first | exact rfl | exact ⟨Below.refl _ _, rfl⟩)
          done
        dsimp only [setS, List.set]
      refine wpS_nil (HQ _ fun w4 hC4 => ?_)
      simp only [closeS, List.drop_succ_cons, List.drop_zero, List.drop_nil]
      clear HQ
      have HB4 := hide (show Below w.heap.size w w4 from HB.out.trans (hC4.below.mono HB.out.size))
      have HR4 := hide (HRO.out.below hC4.below)
      clear hC4 c3 y1 y0
      go_wp2_with fail
      refine (putuv_any Ao mo dO _ (heP l ++ skBs l j) da w4 rfl (by omega) HLO.out (by omega) HR4.out).mono ?_
      rintro e w5 ⟨r5, rfl, ho5, hb5⟩
      obtain ⟨hl5, A5, d5, rfl, hc5, hr5, hn5, -⟩ := own_form ho5
      have HB5 := hide (HB4.out.trans (hb5.mono HB4.out.size))
      obtain ⟨m5, hm5⟩ : ∃ m5, m5 = mo + (uv da).length := ⟨_, rfl⟩
      rw [← hm5] at ho5 hc5 hl5 ⊢
      have hm5l : m5 ≤ mo + 10 := by have := uv_len da; omega
      have HR5 := hide (show BRd w5 A5 ((heP l ++ skBs l j) ++ uv da) from hr5)
      have HL5 := hide (show m5 = ((heP l ++ skBs l j) ++ uv da).length by rw [hl5, List.length_map])
      obtain ⟨B5, d5', c53, hc53⟩ := HCEL.out w5 HB5.out
      obtain ⟨b5, o5, rfl, -, z1⟩ := hc53 (j + 1) hlt
      obtain ⟨b', o', q, -, z0⟩ := hc53 j (by omega)
      injection q with q
      injection q with q1 q2
      subst q1 q2
      rw [← HP1.out] at z1
      rw [← HP0.out] at z0
      clear hc53 ho5 hb5 hl5 hc5 hr5 hn5 hm5
      go_wp2_with fail
      refine wp_region_K 20 (by kernel_rfl) (by kernel_rfl) (fun Q HQ => ?_)
      simp only [List.take_succ_cons, List.take_zero, List.map_cons, List.map_nil]
      repeat
        first | apply wpS_c rfl | apply wpS_gc rfl (guard_mk rfl rfl)
        focus
          intro ev wx hC hx
          (try simp [Op.operands, Call.operands, opndS, Slot.holds] at hx)
          have k1 : wx.cell? _ = _ := CB.cell hC (W0 := w5.drew) c53
          have k2 : wx.cell? _ = _ := CB.cell hC (W0 := w5.drew) z1
          have k3 : wx.cell? _ = _ := CB.cell hC (W0 := w5.drew) z0
          go_simp
          try (first | exact rfl | exact ⟨Below.refl _ _, rfl⟩)
          done
        dsimp only [setS, List.set]
      refine wpS_nil (HQ _ fun w6 hC6 => ?_)
      simp only [closeS, List.drop_succ_cons, List.drop_zero, List.drop_nil]
      clear HQ
      have HB6 := hide (show Below w.heap.size w w6 from HB5.out.trans (hC6.below.mono HB5.out.size))
      have HR6 := hide (HR5.out.below hC6.below)
      clear hC6 c53 z1 z0
      go_wp2_with fail
      refine (putuv_any A5 m5 d5 _ ((heP l ++ skBs l j) ++ uv da) dp w6 rfl (by omega) HL5.out (by omega) HR6.out).mono ?_
      rintro e w7 ⟨r7, rfl, ho7, hb7⟩
      have HO7 : Hid (∃ m, m ≤ 120000 + 20 * (j + 1) ∧ w7.ownsRow w.heap.size 5 1 r7 m ((heP l ++ skBs l (j + 1)).map u8v)) := hide ⟨m5 + (uv dp).length, by have := uv_len dp; omega, by
        rw [skBs_succ, HE.out, ← List.append_assoc, ← List.append_assoc]
        exact own_base ho7 HB6.out.size⟩
      have HB7 := hide (HB6.out.trans (hb7.mono HB6.out.size))
      clear ho7 hb7
      go_wp2
      go_roundw
      case rel => exact ⟨j + 1, by go_num, by omega, HO7, HB7⟩
      case measure => simp [intOf]; omega
    · have hlti : ¬ (j : Int) + 1 < (ks : Int) := by omega
      have hlt0 : ¬ (j : Int) < (ks : Int) - 1 := by omega
      have hjk : j = (l.length + 15) / 16 - 1 := by rw [← HN.out, ← HKS.out]; omega
      have HEN := hide (show heP l ++ skBs l j = encP l by unfold encP; rw [hjk])
      have HNN := hide (own_form HHO.out).2
      obtain ⟨_, _, q, hcc, _, hnn, _⟩ := HNN.out
      injection q with q1 q2 q3
      subst q1 q3
      have HNO := hide hnn
      clear hc3 hjk hnn HNN
      go_wp2_with fail
      refine (seal_any Ao mo dO (encP l) wr (by rw [← HEN.out]; exact HLO.out) (by omega) hcc HNO.out (by rw [← HEN.out]; exact HRO.out)).mono ?_
      rintro e w8 ⟨v8, rfl, ho8, hb8⟩
      have HO8 := hide (own_base ho8 HB.out.size)
      have HB8 := hide (HB.out.trans (hb8.mono HB.out.size))
      clear ho8 hb8
      go_wp2
      go_ret
      exact ⟨_, mo + 4, rfl, by omega, HO8.out, HB8.out⟩
end Go.Proofs.Ytnflffhmnbjelaa
