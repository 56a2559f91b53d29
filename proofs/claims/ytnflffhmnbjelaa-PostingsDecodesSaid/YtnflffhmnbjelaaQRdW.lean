/- The walk of the reference's Decode. -/
import Derived.Test.YtnflffhmnbjelaaQRnW
import Derived.Test.YtnflffhmnbjelaaRead2W
namespace Go.Proofs.Ytnflffhmnbjelaa
open Go.RowKit
set_option linter.unusedVariables false
set_option linter.unusedSimpArgs false
theorem deltaM_le (L : List Bool) (pos : Nat) (h : pos ≤ L.length) : (deltaM L pos).2.1 ≤ L.length := by
  have hg := (gammaM_le L pos h).1
  unfold deltaM
  split
  · split
    · exact h
    · split
      · exact h
      · show (gammaM L pos).2.1 + ((gammaM L pos).1 - 1) ≤ L.length
        omega
  · exact h
theorem gst_le {L : List Bool} : ∀ (k at_ : Nat) (last : Int) (l : List Int), gst L k = some (at_, last, l) → at_ ≤ L.length
  | 0, at_, last, l, h => by
    simp only [gst, Option.some.injEq, Prod.mk.injEq] at h
    obtain ⟨rfl, -⟩ := h
    exact Nat.zero_le _
  | k + 1, at_, last, l, h => by
    rcases hg : gst L k with _ | ⟨a', s', l'⟩
    · rw [gst, hg] at h; cases h
    · have h1 := gst_le k a' s' l' hg
      rw [gst_some hg] at h
      split at h
      · simp only [Option.some.injEq, Prod.mk.injEq] at h
        obtain ⟨rfl, -⟩ := h
        exact deltaM_le L a' h1
      · cases h
/-- What the reference's Decode answers. -/
def RdP (w : World) (o : Option (List Int)) (e : Ending) (w' : World) : Prop := Below w.heap.size w w' ∧ (o = none → e = .returned (.tuple #[.slice none 0 0, .bool false])) ∧ (∀ z, o = some z → ∃ v, e = .returned (.tuple #[v, .bool true]) ∧ w'.ownsRow w.heap.size 3 1 v z.length (z.map iv))
theorem RdP.no {w w' : World} {o : Option (List Int)} {e : Ending} (hb : Below w.heap.size w w') (ho : o = none) (he : e = .returned (.tuple #[.slice none 0 0, .bool false])) : RdP w o e w' := ⟨hb, fun _ => he, fun z hz => by rw [ho] at hz; cases hz⟩
theorem RdP.ok {w w' : World} {o : Option (List Int)} {z : List Int} {v : Value} {e : Ending} (hb : Below w.heap.size w w') (ho : o = some z) (he : e = .returned (.tuple #[v, .bool true])) (hv : w'.ownsRow w.heap.size 3 1 v z.length (z.map iv)) : RdP w o e w' := ⟨hb, fun h => by (rw [ho] at h; cases h), fun y hy => by
  rw [ho] at hy
  injection hy with hy
  subst hy
  exact ⟨v, he, hv⟩⟩
set_option maxHeartbeats 8000000 in
set_option maxRecDepth 100000 in
theorem rdecode_any (a : Option Addr) (n cap : Nat) (b : List UInt8) (w : World) (hn : n = b.length) (hc : n ≤ cap) (hm : n ≤ 600) (hr : BRd w a b) :
    Calls Try.prog 23 #[.slice a n cap] w (RdP w (decQ b)) := by
  by_cases h4 : n < 4
  · have ho : decQ b = none := by unfold decQ; rw [if_pos (by omega)]
    rw [ho]
    clear hr hn ho
    go_enter Try.func23, Try.ntmps23
    go_wp2_with fail
    refine (runseal_short a n cap w h4).mono ?_
    rintro e w' ⟨rfl, rfl⟩
    go_wp2
    go_ret2
    exact .no (bl_refl w) rfl rfl
  obtain ⟨m, rfl⟩ : ∃ m, n = m + 4 := ⟨n - 4, by omega⟩
  obtain ⟨p, hp⟩ : ∃ p, p = b.take m := ⟨_, rfl⟩
  obtain ⟨q, hq⟩ : ∃ q, q = b.drop m := ⟨_, rfl⟩
  have hq4 : q.length = 4 := by rw [hq]; simp; omega
  have hpl : m = p.length := by rw [hp]; simp; omega
  have hb : b = p ++ q := by rw [hp, hq]; exact (List.take_append_drop m b).symm
  have ho : decQ b = if le32 (crc p) = q then dec1 b p else none := by
    unfold decQ
    rw [if_neg (by omega), show b.length - 4 = m by omega, ← hp, ← hq]
  obtain ⟨o, hoo⟩ : ∃ o, o = decQ b := ⟨_, rfl⟩
  rw [← hoo] at ho ⊢
  have HU := hide (runseal_any a m cap p q w hpl hq4 (by omega) hc (by rw [← hb]; exact hr))
  have HB := hide hb
  have HPL := hide hpl
  have HO := hide ho
  have HR := hide hr
  have HN := hide hn
  obtain ⟨i0, hi0, hz0, hz1, hz2⟩ := info_parts info_u8
  obtain ⟨i2, hi2, hy0, hy1, hy2⟩ := info_parts info_int
  clear hp hq hpl hb ho hoo hr hn h4 hq4
  go_enter Try.func23, Try.ntmps23
  go_wp2_with fail
  refine HU.out.mono ?_
  rintro e w1 ⟨hb1, v1, rfl, ho1⟩
  rw [← HPL.out] at ho1
  obtain ⟨hx1, A1, c1, rfl, hc1, hr1, hx2, hx3⟩ := own_form ho1
  have HR1 := hide (show BRd w1 A1 p from hr1)
  have HB1 := hide hb1
  have HN1 := hide hx2
  clear hx1 hx2 hx3 hr1 ho1 hb1
  by_cases heq : le32 (crc p) = q
  · have HO2 := hide (show o = dec1 b p by rw [HO.out, if_pos heq])
    rw [decide_eq_true heq]
    clear heq
    go_wp2_with fail
    refine (take_any A1 m c1 p w1 HPL.out (by omega) HR1.out).mono ?_
    rintro e w' ⟨rfl, rfl⟩
    obtain ⟨⟨n1, k1, e1⟩, hd⟩ : ∃ r, r = dec 0 0 p := ⟨_, rfl⟩
    have hle := dec_le p 0 0
    have HD := hide (show dec1 b p = if e1 ≠ 0 ∨ 4096 < n1 then none else dec2 b n1 (p.drop k1) by unfold dec1; rw [← hd])
    rw [← hd, ← HPL.out] at hle
    rw [← hd, decV_eq]
    simp only [] at hle ⊢
    clear hd
    by_cases he1 : e1 = 0
    · subst he1
      by_cases h4 : 4096 < n1
      · rw [if_pos (.inr h4)] at HD
        have h4' : (4096 : Int) < (n1 : Int) := by omega
        go_wp2
        go_ret2
        exact .no HB1.out (by rw [HO2.out, HD.out]) rfl
      · rw [if_neg (by omega)] at HD
        have h4' : ¬ (4096 : Int) < (n1 : Int) := by omega
        have hk1 : k1 ≤ m := by omega
        have HK1 := hide hk1
        have HC1 := hide hc1
        clear hle hk1 hc1
        go_wp2_with (refine wpList_slice_lo rfl (.tmp 39) (.tmp 40) 42 rfl Try.underlying42 i0 hi0 hz1 A1 m c1 k1 .i64 _ rfl rfl rfl HK1.out HC1.out HN1.out (p.map u8v) HR1.out (by rw [List.length_map]; exact HPL.out.symm) ?_; intro A2 c2 hr2 hc2 hc2b hn2 hp2)
        obtain ⟨m2, hm2⟩ : ∃ m2, m2 = m - k1 := ⟨_, rfl⟩
        rw [← hm2] at hc2 ⊢
        obtain ⟨p2, hp2e⟩ : ∃ p2, p2 = p.drop k1 := ⟨_, rfl⟩
        have HR2 := hide (show BRd w1 A2 p2 by rw [← List.map_drop] at hr2; exact hp2e ▸ hr2)
        have HP2 := hide hp2e
        have HM2 := hide (show m2 = p2.length by rw [hp2e, List.length_drop, ← HPL.out]; first | done | exact hm2)
        have hm2m : k1 + m2 = m := by have := HK1.out; omega
        clear hr2 hn2 hp2 hm2 hp2e hc2b
        rw [← HP2.out] at HD
        refine (take_any A2 m2 c2 p2 w1 HM2.out (by omega) HR2.out).mono ?_
        rintro e w' ⟨rfl, rfl⟩
        obtain ⟨⟨n2, k2, e2⟩, hd⟩ : ∃ r, r = dec 0 0 p2 := ⟨_, rfl⟩
        have hle := dec_le p2 0 0
        have HD2 := hide (show dec2 b n1 p2 = if e2 ≠ 0 ∨ 8 * (m2 - k2) < n2 then none else dec3 b n1 (unpackL (p2.drop k2) n2) by unfold dec2; rw [← hd, ← HM2.out])
        rw [← hd, ← HM2.out] at hle
        rw [← hd, decV_eq]
        simp only [] at hle ⊢
        clear hd
        by_cases he2 : e2 = 0
        · subst he2
          have hk2 : k2 ≤ m2 := by omega
          have HK2 := hide hk2
          obtain ⟨m3, hm3⟩ : ∃ m3, m3 = m2 - k2 := ⟨_, rfl⟩
          rw [← hm3] at HD2
          have em3 : (m : Int) - (k1 : Int) - (k2 : Int) = (m3 : Int) := by omega
          have hm3m : m3 ≤ 600 := by omega
          by_cases h20 : 1048576 < n2
          · rw [if_pos (.inr (by omega))] at HD2
            have h20' : (1048576 : Int) < (n2 : Int) := by omega
            clear hle hm3
            go_wp2
            go_ret2
            exact .no HB1.out (by rw [HO2.out, HD.out, HD2.out]) rfl
          · have h20' : ¬ (1048576 : Int) < (n2 : Int) := by omega
            have e7 : IntKind.u64.wrap ((n2 : Int) + 7) = (n2 : Int) + 7 := by rw [IntKind.wrap_u64]; omega
            have e7b : IntKind.i64.wrap ((n2 : Int) + 7) = (n2 : Int) + 7 := by rw [IntKind.wrap_i64]; omega
            obtain ⟨nb, hnb⟩ : ∃ nb, nb = (n2 + 7) / 8 := ⟨_, rfl⟩
            have e8 : ((n2 : Int) + 7) / 8 = (nb : Int) := by omega
            have e8t : Int.tdiv ((n2 : Int) + 7) 8 = (nb : Int) := by rw [Int.tdiv_eq_ediv_of_nonneg (by omega)]; exact e8
            by_cases h8 : m3 < nb
            · rw [if_pos (.inr (by omega))] at HD2
              have h8' : (m3 : Int) < (nb : Int) := by omega
              clear hle hm3 hnb
              go_wp2
              go_ret2
              exact .no HB1.out (by rw [HO2.out, HD.out, HD2.out]) rfl
            · rw [if_neg (by omega)] at HD2
              have h8' : ¬ (m3 : Int) < (nb : Int) := by omega
              have hn28 : n2 ≤ 8 * m3 := by omega
              have en2 : IntKind.i64.wrap (n2 : Int) = (n2 : Int) := by rw [IntKind.wrap_i64]; omega
              obtain ⟨k3, hk3⟩ : ∃ k3, k3 = k1 + k2 := ⟨_, rfl⟩
              have ek3 : (k1 : Int) + (k2 : Int) = (k3 : Int) := by omega
              have HK3 := hide (show k3 ≤ m by omega)
              have hm3k : m3 = m - k3 := by omega
              have hp3 : p.drop k3 = p2.drop k2 := by rw [HP2.out, List.drop_drop, hk3]
              have HP3 := hide hp3
              have HMK := hide hm3k
              clear hle hm3 hnb hk3 hp3 hm3k hk2
              go_wp2_with (refine wpList_slice_lo rfl (.tmp 65) (.tmp 68) 42 rfl Try.underlying42 i0 hi0 hz1 A1 m c1 k3 .i64 _ rfl rfl rfl HK3.out HC1.out HN1.out (p.map u8v) HR1.out (by rw [List.length_map]; exact HPL.out.symm) ?_; intro A3 c3 hr3 hc3 hc3b hn3 hp3)
              rw [← HMK.out] at hc3 ⊢
              obtain ⟨p3, hp3e⟩ : ∃ p3, p3 = p2.drop k2 := ⟨_, rfl⟩
              have HR3 := hide (show BRd w1 A3 p3 by rw [← List.map_drop, HP3.out, ← hp3e] at hr3; exact hr3)
              have HM3 := hide (show m3 = p3.length by rw [hp3e, ← HP3.out, List.length_drop, ← HPL.out]; exact HMK.out)
              rw [← hp3e] at HD2
              clear hr3 hn3 hp3 hp3e hc3b
              refine (unpack_ref A3 m3 c3 p3 (n2 : Int) n2 w1 rfl HM3.out (by omega) hn28 HR3.out).mono ?_
              rintro e w2 ⟨r2, rfl, ho2, hb2⟩
              obtain ⟨L, hL⟩ : ∃ L, L = unpackL p3 n2 := ⟨_, rfl⟩
              have HLL := hide (show n2 = L.length by rw [hL, unpackL_length])
              rw [← hL] at HD2 ho2
              have hs1 := HB1.out.size
              have HO2b := hide (own_base ho2 hs1)
              have HB2 := hide (HB1.out.trans (hb2.mono hs1))
              obtain ⟨-, A4, c4, rfl, hc4, -, -, -⟩ := own_form ho2
              have HG0 := hide (show gst L 0 = some (0, -1, []) from rfl)
              have HO0 := hide (show w2.ownsRow w.heap.size 3 1 (.slice none 0 0) 0 (([] : List Int).map iv) from ⟨rfl, .inl ⟨rfl, rfl⟩⟩)
              have hn25 : n2 ≤ 4800 := by omega
              clear ho2 hb2 hL hs1
              go_wp2_with fail
              go_loopw [12, 13, 14, 15] (fun ov pv av kv wr => ∃ (k at_ : Nat) (last : Int) (l : List Int), kv = .int .u64 (k : Int) ∧ av = .int .i64 last ∧ pv = .int .i64 (at_ : Int) ∧ k ≤ n1 ∧ -1 ≤ last ∧ last ≤ 2147483648 * (k : Int) ∧ Hid (gst L k = some (at_, last, l)) ∧ Hid (wr.ownsRow w.heap.size 4 1 (.slice A4 n2 c4) n2 (L.map Value.bool)) ∧ Hid (wr.ownsRow w.heap.size 3 1 ov k (l.map iv)) ∧ Hid (Below w.heap.size w wr)) (fun _ _ _ kv _ => n1 - (intOf kv).toNat)
              case atStart => exact ⟨0, 0, -1, [], rfl, rfl, rfl, by omega, by omega, by omega, HG0, HO2b, HO0, HB2⟩
              case round =>
                obtain ⟨k, at_, last, l, rfl, rfl, rfl, hk, hl1, hl2, HG, HOB, HO5, HW5⟩ := hrel
                by_cases hlt : k < n1
                · have hki : (k : Int) < (n1 : Int) := by omega
                  obtain ⟨⟨v, q', er⟩, hd⟩ : ∃ r, r = deltaM L at_ := ⟨_, rfl⟩
                  have hgs := gst_some HG.out
                  rw [← hd] at hgs
                  simp only [] at hgs
                  have HGS := hide hgs
                  have hrm : readM L at_ 3 0 = (v, q', er) := by rw [hd]; rfl
                  have HRM := hide hrm
                  have HAT := hide (gst_le _ _ _ _ HG.out)
                  clear hgs hd hrm
                  go_wp2_with fail
                  refine (read_ref A4 n2 c4 L at_ 3 0 0 wr HLL.out hc4 (by omega) (own_form HOB.out |> fun h => by
                    obtain ⟨-, A', c', e', -, hr, -, -⟩ := h
                    rw [(Value.slice.inj e').1]; exact hr) (by have := HAT.out; rw [← HLL.out] at this; exact this)).mono ?_
                  rintro e w6 ⟨rfl, hb6⟩
                  rw [HRM.out]
                  have HO6 := hide (own_below HO5.out hb6)
                  have HOB6 := hide (own_below HOB.out hb6)
                  have HW6 := hide (HW5.out.trans (hb6.mono HW5.out.size))
                  clear hb6
                  unfold tup3
                  by_cases h0 : er = 0
                  · subst h0
                    by_cases hv : v ≤ 2147483648
                    · have hvi : ¬ (2147483648 : Int) < (v : Int) := by omega
                      rw [if_pos ⟨rfl, hv⟩] at HGS
                      obtain ⟨nx, hnx⟩ : ∃ nx : Int, nx = last + (v : Int) := ⟨_, rfl⟩
                      rw [← hnx] at HGS
                      have enx : last + (v : Int) = nx := hnx.symm
                      have ev : IntKind.i64.wrap (v : Int) = (v : Int) := by rw [IntKind.wrap_i64]; omega
                      have hnx1 : -1 ≤ nx := by omega
                      have hnx2 : nx ≤ 2147483648 * ((k + 1 : Nat) : Int) := by omega
                      have hnx3 : nx ≤ 8796093022208 := by omega
                      clear hnx
                      go_wp2_with (at_builtin; go_loud (refine wpList_append_rd _ rfl (.tmp 97) (.tmp 99) 22 rfl w.heap.size 3 i2 _ 1 8 Try.underlying22 hi2 hy0 hy1 hy2 rfl (by omega) _ _ _ rfl (own_below HO6.out (bl_alloc (bl_refl w6) _)) _ 1 _ [iv nx] rfl rfl (rd_lit w6 _ _ _) (by intro u hu; simp at hu; subst hu; rfl) (by simp only [maxLen]; omega) (by omega) (by have := HW6.out.size; simp; omega) ?_); intro v7 w7 ho7 hg7 hat7)
                      have HOB7 := hide (own_keep2 (own_below HOB6.out (bl_alloc (bl_refl w6) (.cells #[.int .i64 nx] 3))) (own_below HO6.out (bl_alloc (bl_refl w6) (.cells #[.int .i64 nx] 3))) (by decide) hg7)
                      have HO7 : Hid (w7.ownsRow w.heap.size 3 1 v7 (k + 1) ((l ++ [nx]).map iv)) := hide (by
                        rw [List.map_append]
                        exact ho7)
                      have HW7 := hide (bl_grown (bl_alloc HW6.out (.cells #[.int .i64 nx] 3)) hg7 (fun q hq => (HO6.out.lt _ hq).1))
                      clear ho7 hg7 hat7
                      go_roundw
                      case rel => exact ⟨k + 1, q', nx, l ++ [nx], by go_num, rfl, rfl, by omega, hnx1, hnx2, HGS, HOB7, HO7, HW7⟩
                      case measure => simp [intOf]; omega
                    · have hvi : (2147483648 : Int) < (v : Int) := by omega
                      rw [if_neg (fun h => hv h.2)] at HGS
                      have HNO := hide (show o = none by
                        rw [HO2.out, HD.out, HD2.out]; unfold dec3; rw [gst_none HGS.out (show k + 1 ≤ n1 by omega)])
                      go_wp2
                      go_ret2
                      exact .no HW6.out HNO.out rfl
                  · rw [if_neg (fun h => h0 h.1)] at HGS
                    have HNO := hide (show o = none by
                      rw [HO2.out, HD.out, HD2.out]; unfold dec3; rw [gst_none HGS.out (show k + 1 ≤ n1 by omega)])
                    obtain ⟨ei, hei⟩ : ∃ ei : Int, ei = (er : Int) := ⟨_, rfl⟩
                    have h0i : (ei == 0) = false := by rw [beq_eq_false_iff_ne]; omega
                    have h0j : (ei != 0) = true := by simp only [bne, h0i]; rfl
                    rw [← hei]
                    clear hei
                    go_wp2
                    go_ret2
                    exact .no HW6.out HNO.out rfl
                · obtain rfl : k = n1 := by omega
                  have hki : ¬ (k : Int) < (k : Int) := by omega
                  have HO8 := hide (show o = if chkL l = 0 ∧ encQ (natsOf l) = b then some l else none by
                    rw [HO2.out, HD.out, HD2.out]; unfold dec3; rw [HG.out])
                  obtain ⟨hq1, A9, c9, rfl, hc9, hr9, hq2, -⟩ := own_form HO5.out
                  obtain ⟨-, -, hll⟩ := gst_bd _ _ _ _ HG.out
                  have HI9 := hide (show IsI wr A9 k l from ⟨hll.symm, hr9⟩)
                  have HLK := hide hll
                  have hc9m : c9 ≤ maxLen := by
                    rcases HO5.out.2 with ⟨h1, -⟩ | ⟨g', cap', cur', h1, -, -, -, h5, -⟩
                    · rw [(Value.slice.inj h1).2.2]; exact Nat.zero_le _
                    · rw [(Value.slice.inj h1).2.2]; exact h5
                  have HC9 := hide hc9m
                  have HCN := hide hc9
                  clear hq1 hq2 hr9 hll hlt hc9m hc9
                  go_wp2_with fail
                  have kb := fun (wx : World) (h : CB wr.drew wx) => run_bytes_str (P := Try.prog) wx 42 9 5 a (m + 4) cap b Try.underlying42 Try.underlying5 Try.underlying9 HN.out (HR.out.below (HW5.out.trans (h.below.mono HW5.out.size)))
                  by_cases hck : chkL l = 0
                  · obtain ⟨E, hE⟩ : ∃ E, E = encQ (natsOf l) := ⟨_, rfl⟩
                    have HRE := hide (fun (wx : World) (hb : Below wr.heap.size wr wx) => rencode_any A9 k c9 l wx (HI9.out.below hb) hck)
                    rw [← hE] at HRE HO8
                    have HCK := hide hck
                    obtain ⟨nE, hnE⟩ : ∃ nE, nE = E.length := ⟨_, rfl⟩
                    have HNE := hide hnE
                    clear hck hE hnE
                    refine wp_region_K 9 (by kernel_rfl) (by kernel_rfl) (fun Q HQ => ?_)
                    simp only [List.take_succ_cons, List.take_zero, List.map_cons, List.map_nil]
                    apply wpS_c rfl
                    focus
                      intro ev wx hC hx
                      (try simp [Op.operands, Call.operands, opndS, Slot.holds] at hx)
                      go_simp
                      exact ⟨Below.refl _ _, rfl⟩
                    dsimp only [setS, List.set]
                    refine wpS_c (v := .int .i64 0) rfl ?_ ?_
                    focus
                      intro ev wx hC hx
                      (try simp [Op.operands, Call.operands, opndS, Slot.holds] at hx)
                      go_simp
                      refine (rcheck_any A9 k c9 l wx (HI9.out.below hC.below) HCN.out HC9.out).mono ?_
                      rintro e w' ⟨rfl, hb⟩
                      rw [HCK.out]
                      exact ⟨rfl, hb⟩
                    dsimp only [setS, List.set]
                    repeat
                      first
                      | (refine wpS_skip (b := true) rfl (guard_mk rfl rfl) ?_)
                      | (refine wpS_skip (b := false) rfl (guard_mk rfl rfl) ?_)
                      | (first | apply wpS_c rfl | apply wpS_gc rfl (guard_mk rfl rfl)
                         focus
                           intro ev wx hC hx
                           (try simp [Op.operands, Call.operands, opndS, Slot.holds] at hx)
                           go_simp
                           try (first | exact rfl | exact ⟨Below.refl _ _, rfl⟩)
                           done)
                      dsimp only [setS, List.set]
                    refine wpS_gp (R := FreshRow wr.heap.size 5 nE (E.map u8v)) rfl (stab_fresh _ _ _ _) (guard_mk rfl rfl) ?_ ?_
                    focus
                      intro ev wx hC hx
                      (try simp [Op.operands, Call.operands, opndS, Slot.holds] at hx)
                      go_simp
                      refine (HRE.out wx hC.below).mono ?_
                      rintro e w' ⟨v, m', rfl, -, hown, hb⟩
                      have hm' : m' = nE := by have := (own_form hown).1; rw [this, List.length_map]; exact HNE.out.symm
                      rw [hm'] at hown
                      exact ⟨v, rfl, hb, Nat.le_trans hC.below.size hb.size, own_base hown hC.below.size⟩
                    dsimp only [setS, List.set]
                    refine wpS_gc rfl (guard_mk rfl rfl) (opS_str_fresh (.tmp 106) 42 9 5 rfl Try.underlying42 Try.underlying5 Try.underlying9 wr.heap.size nE E rfl) ?_
                    dsimp only [setS, List.set]
                    repeat
                      first
                      | (refine wpS_skip (b := true) rfl (guard_mk rfl rfl) ?_)
                      | (refine wpS_skip (b := false) rfl (guard_mk rfl rfl) ?_)
                      | (first | apply wpS_c rfl | apply wpS_gc rfl (guard_mk rfl rfl)
                         focus
                           intro ev wx hC hx
                           (try simp [Op.operands, Call.operands, opndS, Slot.holds] at hx)
                           go_simp
                           try (first | exact rfl | exact ⟨Below.refl _ _, rfl⟩)
                           done)
                      dsimp only [setS, List.set]
                    refine wpS_nil (HQ _ fun w8 hC8 => ?_)
                    simp only [closeS, List.drop_succ_cons, List.drop_zero, List.drop_nil]
                    have HW8 := hide (HW5.out.trans (hC8.below.mono HW5.out.size))
                    have HO58 := hide (own_below HO5.out hC8.below)
                    clear HQ kb hC8
                    rintro v106 -
                    by_cases heq : E = b
                    · have HO9 := hide (show o = some l by rw [HO8.out, if_pos ⟨HCK.out, heq⟩])
                      have e5 : (E == b) = true := by rw [beq_iff_eq]; exact heq
                      have e6 : (E != b) = false := by simp only [bne, e5]; rfl
                      clear heq
                      go_wp2
                      go_ret2
                      exact .ok HW8.out HO9.out rfl (by rw [HLK.out]; exact HO58.out)
                    · have HO9 := hide (show o = none by rw [HO8.out, if_neg (fun h => heq h.2)])
                      have e5 : (E == b) = false := by rw [beq_eq_false_iff_ne]; exact heq
                      have e6 : (E != b) = true := by simp only [bne, e5]; rfl
                      clear heq
                      go_wp2
                      go_ret2
                      exact .no HW8.out HO9.out rfl
                  · have HO9 := hide (show o = none by rw [HO8.out, if_neg (fun h => hck h.1)])
                    obtain ⟨ei, hei⟩ : ∃ ei : Int, ei = ((chkL l : Nat) : Int) := ⟨_, rfl⟩
                    have h0i : (ei == 0) = false := by rw [beq_eq_false_iff_ne]; omega
                    have h0j : (ei != 0) = true := by simp only [bne, h0i]; rfl
                    have HEI := hide hei
                    clear hei hck
                    refine wp_region_K 9 (by kernel_rfl) (by kernel_rfl) (fun Q HQ => ?_)
                    simp only [List.take_succ_cons, List.take_zero, List.map_cons, List.map_nil]
                    apply wpS_c rfl
                    focus
                      intro ev wx hC hx
                      (try simp [Op.operands, Call.operands, opndS, Slot.holds] at hx)
                      go_simp
                      exact ⟨Below.refl _ _, rfl⟩
                    dsimp only [setS, List.set]
                    refine wpS_c (v := .int .i64 ei) rfl ?_ ?_
                    focus
                      intro ev wx hC hx
                      (try simp [Op.operands, Call.operands, opndS, Slot.holds] at hx)
                      go_simp
                      refine (rcheck_any A9 k c9 l wx (HI9.out.below hC.below) HCN.out HC9.out).mono ?_
                      rintro e w' ⟨rfl, hb⟩
                      rw [← HEI.out]
                      exact ⟨rfl, hb⟩
                    dsimp only [setS, List.set]
                    repeat
                      first
                      | (refine wpS_skip (b := true) rfl (guard_mk rfl rfl) ?_)
                      | (refine wpS_skip (b := false) rfl (guard_mk rfl rfl) ?_)
                      | (first | apply wpS_c rfl | apply wpS_gc rfl (guard_mk rfl rfl)
                         focus
                           intro ev wx hC hx
                           (try simp [Op.operands, Call.operands, opndS, Slot.holds] at hx)
                           go_simp
                           try (first | exact rfl | exact ⟨Below.refl _ _, rfl⟩)
                           done)
                      dsimp only [setS, List.set]
                    refine wpS_nil (HQ _ fun w8 hC8 => ?_)
                    simp only [closeS, List.drop_succ_cons, List.drop_zero, List.drop_nil]
                    have HW8 := hide (HW5.out.trans (hC8.below.mono HW5.out.size))
                    clear HQ kb hC8
                    go_wp2
                    go_ret2
                    exact .no HW8.out HO9.out rfl
        · rw [if_pos (.inl he2)] at HD2
          obtain ⟨ei, hei⟩ : ∃ ei : Int, ei = (e2 : Int) := ⟨_, rfl⟩
          have h0i : (ei == 0) = false := by rw [beq_eq_false_iff_ne]; omega
          have h0j : (ei != 0) = true := by simp only [bne, h0i]; rfl
          rw [← hei]
          clear hei
          go_wp2
          go_ret2
          exact .no HB1.out (by rw [HO2.out, HD.out, HD2.out]) rfl
    · rw [if_pos (.inl he1)] at HD
      obtain ⟨ei, hei⟩ : ∃ ei : Int, ei = (e1 : Int) := ⟨_, rfl⟩
      have h0i : (ei == 0) = false := by rw [beq_eq_false_iff_ne]; omega
      have h0j : (ei != 0) = true := by simp only [bne, h0i]; rfl
      rw [← hei]
      clear hei
      go_wp2
      go_ret2
      exact .no HB1.out (by rw [HO2.out, HD.out]) rfl
  · have HO2 := hide (show o = none by rw [HO.out, if_neg heq])
    rw [decide_eq_false heq]
    clear heq
    go_wp2
    go_ret2
    exact .no HB1.out HO2.out rfl
end Go.Proofs.Ytnflffhmnbjelaa
