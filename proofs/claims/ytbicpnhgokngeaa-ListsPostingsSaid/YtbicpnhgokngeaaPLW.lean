/- The walk of the law ListsPostings. -/
import Derived.Test.YtbicpnhgokngeaaPLM
namespace Go.Proofs.Ytbicpnhgokngeaa
open Go.RowKit
set_option linter.unusedVariables false
set_option linter.unusedSimpArgs false
theorem seekV_form (l : List Nat) (p : Int) : ∃ (x k : Int) (c : Bool), seekV l p = .tuple #[.int .i64 x, .int .i64 k, .bool c] := by
  unfold seekV
  by_cases h : rankQ l p < l.length
  · rw [if_pos h]; exact ⟨_, _, _, rfl⟩
  · rw [if_neg h]; exact ⟨_, _, _, rfl⟩
theorem LRes.open_ {base : Nat} {r : List Int × Nat} {e : Ending} {w : World} (h : LRes base r e w) : ∃ a c, e = .returned (.tuple #[.slice a r.1.length c, .int .i64 ((r.2 : Nat) : Int)]) ∧ r.1.length ≤ c ∧ c ≤ maxLen ∧ IsI w a r.1.length r.1 := by
  obtain ⟨v, rfl, hown⟩ := h
  obtain ⟨a, c, rfl, h1, h2, h3⟩ := own_isI hown rfl
  exact ⟨a, c, rfl, h1, h2, h3⟩
theorem long2 {la lb : List Int} (h : longM [la, lb] = false) : la.length ≤ 100 ∧ lb.length ≤ 100 := by
  unfold longM at h
  simp at h
  omega
namespace listsPostings
set_option maxHeartbeats 4000000 in
set_option maxRecDepth 100000 in
theorem walk (a : Option Addr) (n c : Nat) (z : List Int) (b : Option Addr) (m d : Nat) (y : List Int) (w : World) (w0 : IsRow .i64 w a n c z) (w1 : IsRow .i64 w b m d y) :
    Calls Try.prog 3 #[.slice a n c, .slice b m d] w fun e w' => e = .returned (.bool true) ∧ Below w.heap.size w w' := by
  obtain ⟨la, hia, hc, hcm, hza⟩ := w0.ints
  obtain ⟨lb, hib, hd, hdm, hzb⟩ := w1.ints
  have HA := hide hia
  have HB := hide hib
  have HLL := hide (ll_two (e := 22) hia hib hc hd hcm hdm)
  have HZA := hide hza
  have HZB := hide hzb
  obtain ⟨i2, hi2, hz0, hz1, hz2⟩ := info_parts info_int
  clear hia hib w0 w1 hza hzb
  go_enter Try.func3, Try.ntmps3
  go_wp2_with fail
  refine (long_any _ 2 2 [la, lb] _ HLL.out (by decide)).mono ?_
  rintro e w1 ⟨rfl, hb1⟩
  have hb0 : Below w.heap.size w w1 := bl_trans (bl_alloc (bl_refl w) _) hb1
  have HB1 := hide hb0
  clear hb1 hb0 HLL
  by_cases hl : longM [la, lb] = true
  · rw [hl]
    clear hl
    go_wp2
    go_ret
    exact ⟨rfl, HB1.out⟩
  have hl : longM [la, lb] = false := by simpa using hl
  obtain ⟨hn1, hm1⟩ := long2 hl
  rw [← HA.out.1] at hn1
  rw [← HB.out.1] at hm1
  rw [hl]
  clear hl
  go_wp2_with fail
  refine (check_any a n c la w1 (HA.out.below HB1.out) hc hcm).mono ?_
  rintro e w2 ⟨rfl, hb2⟩
  have HB2 := hide (HB1.out.trans (hb2.mono HB1.out.size))
  clear hb2
  by_cases hka : chkL la ≠ 0
  · obtain ⟨q, hq⟩ : ∃ q : Int, q = ((chkL la : Nat) : Int) := ⟨_, rfl⟩
    have h5 : q ≠ 0 := by omega
    rw [← hq]
    have hqb : (q == 0) = false := by simpa using h5
    have hqc : (q != 0) = true := by simpa using h5
    clear hka hq
    go_wp2
    go_ret
    exact ⟨rfl, HB2.out⟩
  have hka : chkL la = 0 := Decidable.not_not.1 hka
  rw [hka]
  have HKA := hide hka
  clear hka
  go_wp2_with fail
  refine (check_any b m d lb w2 (HB.out.below HB2.out) hd hdm).mono ?_
  rintro e w3 ⟨rfl, hb3⟩
  have HB3 := hide (HB2.out.trans (hb3.mono HB2.out.size))
  clear hb3
  by_cases hkb : chkL lb ≠ 0
  · obtain ⟨q, hq⟩ : ∃ q : Int, q = ((chkL lb : Nat) : Int) := ⟨_, rfl⟩
    have h5 : q ≠ 0 := by omega
    rw [← hq]
    have hqb : (q == 0) = false := by simpa using h5
    have hqc : (q != 0) = true := by simpa using h5
    clear hkb hq
    go_wp2
    go_ret
    exact ⟨rfl, HB3.out⟩
  have hkb : chkL lb = 0 := Decidable.not_not.1 hkb
  rw [hkb]
  have HKB := hide hkb
  clear hkb
  go_wp2_with fail
  refine (build_any a n c la w3 (HA.out.below HB3.out) HZA.out).mono ?_
  rintro e w4 ⟨-, g2, hb4⟩
  obtain ⟨x, rfl, -, hsx⟩ := g2 HKA.out
  have HB4 := hide (HB3.out.trans (hb4.mono HB3.out.size))
  have HX4 := hide hsx
  clear g2 hb4 hsx
  go_wp2_with fail
  refine (build_any b m d lb w4 (HB.out.below HB4.out) HZB.out).mono ?_
  rintro e w5 ⟨-, g2, hb5⟩
  obtain ⟨y', rfl, -, hsy⟩ := g2 HKB.out
  have HB5 := hide (HB4.out.trans (hb5.mono HB4.out.size))
  have HY5 := hide hsy
  have HX5 := hide (HX4.out.below hb5)
  clear g2 hb5 hsy
  obtain ⟨na, hna⟩ : ∃ na, na = natsOf la := ⟨_, rfl⟩
  obtain ⟨nb, hnb⟩ : ∃ nb, nb = natsOf lb := ⟨_, rfl⟩
  have HNA := hide hna
  have HNB := hide hnb
  have hla : na.length = n := by rw [hna, natsOf_length, HA.out.1]
  have hlb : nb.length = m := by rw [hnb, natsOf_length, HB.out.1]
  have HLA := hide hla
  have HLB := hide hlb
  have HOA := hide (show okQ na by rw [hna]; exact okQ_of HKA.out)
  have HOB := hide (show okQ nb by rw [hnb]; exact okQ_of HKB.out)
  have HSA := hide (szQ_of HOA.out (by omega))
  have HSB := hide (szQ_of HOB.out (by omega))
  rw [← hna] at HX5
  rw [← hnb] at HY5
  have HO0 := hide (show w5.ownsRow w5.heap.size 3 1 (.slice none 0 0) (fndM la lb 0).length ((fndM la lb 0).map iv) by rw [fnd_zero la lb HKA.out]; exact ⟨rfl, .inl ⟨rfl, rfl⟩⟩)
  have HW5 := hide (bl_refl w5)
  have HI0 := hide (show 0 ≤ rankQ na 0 + rankQ nb 0 from Nat.zero_le _)
  clear hna hnb hla hlb
  go_wp2_with fail
  go_loopw [9, 10, 11] (fun lv av kv wr => ∃ (i : Nat) (t : Int), kv = .int .i64 (i : Int) ∧ av = .int .i64 t ∧ i ≤ n + m ∧ 0 ≤ t ∧ t ≤ 2147483648 ∧ Hid (i ≤ rankQ na t + rankQ nb t) ∧ Hid (wr.ownsRow w5.heap.size 3 1 lv (fndM la lb t).length ((fndM la lb t).map iv)) ∧ Hid (Below w5.heap.size w5 wr)) (fun _ _ kv _ => n + m + 1 - (intOf kv).toNat)
  case atStart => exact ⟨0, 0, rfl, rfl, by omega, by omega, by omega, HI0, HO0, HW5⟩
  case round =>
    obtain ⟨i, t, rfl, rfl, hi, ht0, ht1, HI, HO, HW⟩ := hrel
    have HX := hide (HX5.out.below HW.out)
    have HY := hide (HY5.out.below HW.out)
    have hii : (i : Int) ≤ (n : Int) + (m : Int) := by omega
    rcases Nat.lt_or_ge (rankQ na t) n with hr | hr
    · obtain ⟨p, hp⟩ : ∃ p, na[rankQ na t]? = some p := ⟨_, List.getElem?_eq_getElem (by rw [HLA.out]; exact hr)⟩
      have HV := hide (seekV_at rfl hp)
      have HP := hide hp
      have htp := rank_at hp
      have hp31 : p < 2147483648 := HOA.out.2 p (List.mem_of_getElem? hp)
      clear hp
      go_wp2_with fail
      refine (seek_any x na t wr HX.out HOA.out HSA.out).mono ?_
      rintro e w6 ⟨rfl, hb6⟩
      rw [HV.out]
      have HB6 := hide (HW.out.trans (hb6.mono HW.out.size))
      have HY6 := hide (HY.out.below hb6)
      have HO6 := hide (own_below HO.out hb6)
      clear hb6
      rcases Nat.lt_or_ge (rankQ nb (p : Int)) m with hs | hs
      · obtain ⟨q, hq⟩ : ∃ q, nb[rankQ nb (p : Int)]? = some q := ⟨_, List.getElem?_eq_getElem (by rw [HLB.out]; exact hs)⟩
        have HVQ := hide (seekV_at rfl hq)
        have HQ := hide hq
        have hpq := rank_at hq
        have hq31 : q < 2147483648 := HOB.out.2 q (List.mem_of_getElem? hq)
        clear hq
        go_wp2_with fail
        refine (seek_any y' nb (p : Int) w6 HY6.out HOB.out HSB.out).mono ?_
        rintro e w7 ⟨rfl, hb7⟩
        rw [HVQ.out]
        have HB7 := hide (HB6.out.trans (hb7.mono HB6.out.size))
        have HO7 := hide (own_below HO6.out hb7)
        have hln : (fndM la lb t).length ≤ 100 := by
          unfold fndM
          have h1 : (both (la.take (rankQ (natsOf la) t)) lb).length ≤ (la.take (rankQ (natsOf la) t)).length := List.length_filter_le _ _
          rw [List.length_take, ← HA.out.1] at h1
          omega
        clear hb7
        by_cases hpe : p = q
        · have hst := fnd_same HKA.out HKB.out (t := t) (p := p) (q := q) (by rw [← HNA.out]; exact HP.out) (by rw [← HNB.out]; exact HQ.out) hpe
          rw [← HNA.out, ← HNB.out] at hst
          subst hpe
          have HST := hide hst
          obtain ⟨fl, hfl⟩ : ∃ fl, fl = (fndM la lb t).length := ⟨_, rfl⟩
          have HFL := hide hfl
          have hi1 : i + 1 ≤ rankQ na ((p : Int) + 1) + rankQ nb ((p : Int) + 1) := by have := HI.out; omega
          have hin2 : i + 1 ≤ n + m := by have h1 := rankQ_le na ((p : Int) + 1); have h2 := rankQ_le nb ((p : Int) + 1); rw [HLA.out] at h1; rw [HLB.out] at h2; omega
          have HI1 := hide hi1
          rw [← hfl] at HO7 hln
          clear hst hfl hi1 hpq
          go_wp2_with (at_builtin; go_loud (refine wpList_append_rd _ rfl (.tmp 90) (.tmp 92) 22 rfl w5.heap.size 3 i2 _ 1 8 Try.underlying22 hi2 hz0 hz1 hz2 rfl (by omega) _ _ _ rfl (own_below HO7.out (bl_alloc (bl_refl w7) _)) _ 1 _ [iv (p : Int)] rfl rfl (rd_lit w7 _ _ _) (by intro u hu; simp at hu; subst hu; rfl) (by simp only [maxLen]; omega) (by omega) (by have := HB7.out.size; simp; omega) ?_); intro v8 w8 ho8 hg8 hat8)
          have HO8 := hide (show w8.ownsRow w5.heap.size 3 1 v8 (fndM la lb ((p : Int) + 1)).length ((fndM la lb ((p : Int) + 1)).map iv) by
            rw [HST.out.1, List.length_append, List.map_append, ← HFL.out]; exact ho8)
          have HB8 := hide (bl_grown (bl_alloc HB7.out (.cells #[.int .i64 (p : Int)] 3)) hg8 (fun j hj => (HO7.out.lt j hj).1))
          clear ho8 hg8 hat8
          go_roundw
          case rel => exact ⟨i + 1, (p : Int) + 1, by go_num, rfl, hin2, by omega, by omega, HI1, HO8, HB8⟩
          case measure => simp [intOf]; omega
        · have hst := fnd_skip HKA.out HKB.out (t := t) (p := p) (q := q) (by rw [← HNA.out]; exact HP.out) (by rw [← HNB.out]; exact HQ.out) hpe
          rw [← HNA.out, ← HNB.out] at hst
          have HST := hide hst
          have hi1 : i + 1 ≤ rankQ na (q : Int) + rankQ nb (q : Int) := by have := HI.out; omega
          have hin2 : i + 1 ≤ n + m := by have h1 := rankQ_le na (q : Int); have h2 := rankQ_le nb (q : Int); rw [HLA.out] at h1; rw [HLB.out] at h2; omega
          have HI1 := hide hi1
          have HO8 := hide (show w7.ownsRow w5.heap.size 3 1 u9 (fndM la lb (q : Int)).length ((fndM la lb (q : Int)).map iv) by rw [HST.out.1]; exact HO7.out)
          have hpqi : ((p : Int) == (q : Int)) = false := by rw [beq_eq_false_iff_ne]; omega
          clear hst hi1 hpe
          go_wp2
          go_roundw
          case rel => exact ⟨i + 1, (q : Int), by go_num, rfl, hin2, by omega, by omega, HI1, HO8, HB7⟩
          case measure => simp [intOf]; omega
      · have hse : rankQ nb (p : Int) = nb.length := by have := rankQ_le nb (p : Int); rw [HLB.out] at this ⊢; omega
        have HVQ := hide (seekV_no hse)
        have HSE := hide hse
        clear hse
        go_wp2_with fail
        refine (seek_any y' nb (p : Int) w6 HY6.out HOB.out HSB.out).mono ?_
        rintro e w7 ⟨rfl, hb7⟩
        rw [HVQ.out]
        have HB7 := hide (HB6.out.trans (hb7.mono HB6.out.size))
        have HO7 := hide (own_below HO6.out hb7)
        have HBT := hide (HB5.out.trans (HB7.out.mono HB5.out.size))
        clear hb7 HO HO6
        have HO := HO7
        have HFE := hide (fnd_end HKA.out HKB.out (t := t) (by rw [← HNA.out, ← HNB.out]; exact .inr ⟨p, HP.out, HSE.out⟩))
        rw [HFE.out] at HO
        obtain ⟨A9, c9, rfl, hc9, hcm9, hi9⟩ := own_isI HO.out rfl
        have HI9 := hide hi9
        have hbl : (both la lb).length ≤ 100 := by
          have : (both la lb).length ≤ la.length := List.length_filter_le _ _
          rw [← HA.out.1] at this; omega
        clear hi9 hcm9 HO
        go_wp2_with fail
        refine (inter_any a b n c m d la lb w7 (HA.out.below HBT.out) (HB.out.below HBT.out) hc hd hcm hdm).mono ?_
        rintro e w8 ⟨hres, hb8⟩
        have hint : interM la lb = (both la lb, 0) := by
          unfold interM
          rw [if_pos ((chkA_zero _).2 (fun l hl => by simp at hl; rcases hl with rfl | rfl; exact HKA.out; exact HKB.out))]
        rw [hint] at hres
        obtain ⟨A8, c8, rfl, hc8, hcm8, hi8⟩ := hres.open_
        have HI8 := hide hi8
        have HI98 := hide (HI9.out.below hb8)
        have HB8 := hide (HBT.out.trans (hb8.mono HBT.out.size))
        obtain ⟨bl, hbleq⟩ : ∃ bl, bl = (both la lb).length := ⟨_, rfl⟩
        simp only [] at hc8 HI8 ⊢
        rw [← hbleq] at hbl hc8 hc9 HI8 HI98 ⊢
        clear hres hb8 hint hi8 hbleq
        go_wp2_with fail
        refine (same_ints A9 A8 bl c9 bl c8 (both la lb) (both la lb) w8 HI98.out HI8.out hc9 hc8 (by omega) (by omega)).mono ?_
        rintro e w9 ⟨rfl, hb9⟩
        rw [decide_eq_true rfl]
        have HB9 := hide (HB8.out.trans (hb9.mono HB8.out.size))
        clear hb9
        go_wp2_with fail
        refine (awake_any w9).mono ?_
        rintro e w10 ⟨rfl, hb10⟩
        have HB10 := hide (HB9.out.trans (hb10.mono HB9.out.size))
        clear hb10
        go_wp2
        go_ret
        exact ⟨rfl, HB10.out⟩
    · have hse : rankQ na t = na.length := by have := rankQ_le na t; rw [HLA.out] at this ⊢; omega
      have HV := hide (seekV_no hse)
      have HSE := hide hse
      clear hse
      go_wp2_with fail
      refine (seek_any x na t wr HX.out HOA.out HSA.out).mono ?_
      rintro e w6 ⟨rfl, hb6⟩
      rw [HV.out]
      have HB6 := hide (HW.out.trans (hb6.mono HW.out.size))
      have HY6 := hide (HY.out.below hb6)
      have HO6 := hide (own_below HO.out hb6)
      clear hb6
      obtain ⟨s1, s2, s3, hsv⟩ := seekV_form nb 0
      have HSV := hide hsv
      clear hsv
      go_wp2_with fail
      refine (seek_any y' nb 0 w6 HY6.out HOB.out HSB.out).mono ?_
      rintro e w7 ⟨rfl, hb7⟩
      rw [HSV.out]
      have HB7 := hide (HB6.out.trans (hb7.mono HB6.out.size))
      have HO7 := hide (own_below HO6.out hb7)
      have HBT := hide (HB5.out.trans (HB7.out.mono HB5.out.size))
      clear hb7 HO HO6
      have HO := HO7
      have HFE := hide (fnd_end HKA.out HKB.out (t := t) (by rw [← HNA.out, ← HNB.out]; exact .inl HSE.out))
      rw [HFE.out] at HO
      obtain ⟨A9, c9, rfl, hc9, hcm9, hi9⟩ := own_isI HO.out rfl
      have HI9 := hide hi9
      have hbl : (both la lb).length ≤ 100 := by
        have : (both la lb).length ≤ la.length := List.length_filter_le _ _
        rw [← HA.out.1] at this; omega
      clear hi9 hcm9 HO
      go_wp2_with fail
      refine (inter_any a b n c m d la lb w7 (HA.out.below HBT.out) (HB.out.below HBT.out) hc hd hcm hdm).mono ?_
      rintro e w8 ⟨hres, hb8⟩
      have hint : interM la lb = (both la lb, 0) := by
        unfold interM
        rw [if_pos ((chkA_zero _).2 (fun l hl => by simp at hl; rcases hl with rfl | rfl; exact HKA.out; exact HKB.out))]
      rw [hint] at hres
      obtain ⟨A8, c8, rfl, hc8, hcm8, hi8⟩ := hres.open_
      have HI8 := hide hi8
      have HI98 := hide (HI9.out.below hb8)
      have HB8 := hide (HBT.out.trans (hb8.mono HBT.out.size))
      obtain ⟨bl, hbleq⟩ : ∃ bl, bl = (both la lb).length := ⟨_, rfl⟩
      simp only [] at hc8 HI8 ⊢
      rw [← hbleq] at hbl hc8 hc9 HI8 HI98 ⊢
      clear hres hb8 hint hi8 hbleq
      go_wp2_with fail
      refine (same_ints A9 A8 bl c9 bl c8 (both la lb) (both la lb) w8 HI98.out HI8.out hc9 hc8 (by omega) (by omega)).mono ?_
      rintro e w9 ⟨rfl, hb9⟩
      rw [decide_eq_true rfl]
      have HB9 := hide (HB8.out.trans (hb9.mono HB8.out.size))
      clear hb9
      go_wp2_with fail
      refine (awake_any w9).mono ?_
      rintro e w10 ⟨rfl, hb10⟩
      have HB10 := hide (HB9.out.trans (hb10.mono HB9.out.size))
      clear hb10
      go_wp2
      go_ret
      exact ⟨rfl, HB10.out⟩
end listsPostings
end Go.Proofs.Ytbicpnhgokngeaa
