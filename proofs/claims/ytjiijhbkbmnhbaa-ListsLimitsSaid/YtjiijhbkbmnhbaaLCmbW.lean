/- The walk of the law ListsCombines. -/
import Derived.Test.YtjiijhbkbmnhbaaLInsW
namespace Go.Proofs.Ytjiijhbkbmnhbaa
open Go.RowKit
set_option linter.unusedVariables false
set_option linter.unusedSimpArgs false
theorem LRes.open_ {base : Nat} {r : List Int × Nat} {e : Ending} {w : World} (h : LRes base r e w) : ∃ a c, e = .returned (.tuple #[.slice a r.1.length c, .int .i64 ((r.2 : Nat) : Int)]) ∧ r.1.length ≤ c ∧ c ≤ maxLen ∧ IsI w a r.1.length r.1 := by
  obtain ⟨v, rfl, hown⟩ := h
  obtain ⟨a, c, rfl, h1, h2, h3⟩ := own_isI hown rfl
  exact ⟨a, c, rfl, h1, h2, h3⟩
theorem same_same (a b : Option Addr) (n c d : Nat) (l : List Int) (w : World) (ha : IsI w a n l) (hb : IsI w b n l) (hc : n ≤ c) (hd : n ≤ d) (hn : n ≤ 100000) :
    Calls Try.prog 19 #[.slice a n c, .slice b n d] w fun e w' => e = .returned (.bool true) ∧ Below w.heap.size w w' :=
  (same_ints a b n c n d l l w ha hb hc hd hn hn).mono fun e w' h => ⟨by rw [h.1]; simp, h.2⟩
theorem mergeM_len2 (la lb : List Int) : (mergeM [la, lb]).1.length ≤ 4096 := by
  unfold mergeM
  by_cases h : chkA [la, lb] = 0
  · rw [if_pos h, mrg_eq _ _ (by simp)]
    split
    · simp
    · simp only; omega
  · rw [if_neg h]; simp
theorem mergeM_len (ls : List (List Int)) : (mergeM ls).1.length ≤ 4096 := by
  unfold mergeM
  by_cases h : chkA ls = 0
  · rw [if_pos h, mrg_eq _ _ (by simp)]
    split
    · simp
    · simp only; omega
  · rw [if_neg h]; simp
theorem interM_len (la lb : List Int) : (interM la lb).1.length ≤ la.length := by
  unfold interM; split
  · exact List.length_filter_le _ _
  · simp
theorem subM_len (la lb : List Int) : (subM la lb).1.length ≤ la.length := by
  unfold subM; split
  · exact List.length_filter_le _ _
  · simp
theorem long2 {la lb : List Int} (h : longM [la, lb] = false) : la.length ≤ 100 ∧ lb.length ≤ 100 := by
  unfold longM at h
  simp at h
  omega
namespace listsCombines
set_option maxHeartbeats 1000000 in
set_option maxRecDepth 100000 in
theorem walk (a : Option Addr) (n c : Nat) (z : List Int) (b : Option Addr) (m d : Nat) (y : List Int) (w : World) (w0 : IsRow .i64 w a n c z) (w1 : IsRow .i64 w b m d y) :
    Calls Try.prog 7 #[.slice a n c, .slice b m d] w fun e w' => e = .returned (.bool true) ∧ Below w.heap.size w w' := by
  obtain ⟨la, hia, hc, hcm, _⟩ := w0.ints
  obtain ⟨lb, hib, hd, hdm, _⟩ := w1.ints
  have HA := hide hia
  have HB := hide hib
  have HLL := hide (ll_two (e := 22) hia hib hc hd hcm hdm)
  have HAN := hide hia.1
  have HBN := hide hib.1
  clear hia hib w0 w1
  go_enter Try.func7, Try.ntmps7
  go_wp2_with fail
  refine (long_any _ 2 2 [la, lb] _ HLL.out (by decide)).mono ?_
  rintro e w1 ⟨rfl, hb1⟩
  have hb0 : Below w.heap.size w w1 := bl_trans (bl_alloc (bl_refl w) _) hb1
  clear hb1
  cases hl : longM [la, lb]
  case true =>
    go_wp2
    go_ret
    exact ⟨rfl, hb0⟩
  obtain ⟨hla, hlb⟩ := long2 hl
  have hn1 : n ≤ 100 := by rw [HAN.out]; exact hla
  have hm1 : m ≤ 100 := by rw [HBN.out]; exact hlb
  clear hl
  go_wp2_with fail
  refine (unionF_any a b n c m d la lb w1 (HA.out.below hb0) (HB.out.below hb0) hc hd hcm hdm).mono ?_
  rintro e w2 ⟨hr, hb2⟩
  have hq := mergeM_len [la, lb]
  obtain ⟨u, hu⟩ : ∃ u, u = mergeM [la, lb] := ⟨_, rfl⟩
  rw [← hu] at hr hq
  have HU := hide hu
  obtain ⟨a2, c2, rfl, hc2, hm2, hi2⟩ := hr.open_
  have HI2 := hide hi2
  have hb02 := hb0.trans (hb2.mono hb0.size)
  obtain ⟨un, hun⟩ : ∃ un, un = u.1.length := ⟨_, rfl⟩
  obtain ⟨ue, hue⟩ : ∃ ue, ue = u.2 := ⟨_, rfl⟩
  rw [← hun] at hq hc2 HI2 ⊢
  rw [← hue]
  have HUN := hide hun
  have HUE := hide hue
  clear hr hu hi2 hb2 hun hue
  go_wp2_with fail
  refine (rmerge_any _ 2 2 [la, lb] _ (ll_two (e := 22) (HA.out.below hb02) (HB.out.below hb02) hc hd hcm hdm) (by decide) (fun l hl => by
    simp at hl
    rcases hl with rfl | rfl
    · exact hla
    · exact hlb)).mono ?_
  rintro e w3 ⟨hr, hb3⟩
  rw [← HU.out] at hr
  obtain ⟨a3, c3, rfl, hc3, hm3, hi3⟩ := hr.open_
  have hb23 : Below w2.heap.size w2 w3 := bl_trans (bl_alloc (bl_refl w2) _) hb3
  have hb03 := hb02.trans (hb23.mono hb02.size)
  rw [← HUN.out] at hc3 hi3 ⊢
  rw [← HUE.out]
  have HI3 := hide hi3
  have HI2' := hide (HI2.out.below hb23)
  clear HI2 hr hi3 hb3 hb23
  go_wp2_with fail
  refine (inter_any a b n c m d la lb w3 (HA.out.below hb03) (HB.out.below hb03) hc hd hcm hdm).mono ?_
  rintro e w4 ⟨hr, hb4⟩
  have hp := interM_len la lb
  obtain ⟨p, hpp⟩ : ∃ p, p = interM la lb := ⟨_, rfl⟩
  rw [← hpp] at hr hp
  have HP := hide hpp
  obtain ⟨a4, c4, rfl, hc4, hm4, hi4⟩ := hr.open_
  have hb04 := hb03.trans (hb4.mono hb03.size)
  obtain ⟨pn, hpn⟩ : ∃ pn, pn = p.1.length := ⟨_, rfl⟩
  obtain ⟨pe, hpe⟩ : ∃ pe, pe = p.2 := ⟨_, rfl⟩
  rw [← hpn] at hp hc4 hi4 ⊢
  rw [← hpe]
  have HPN := hide hpn
  have HPE := hide hpe
  have HI4 := hide hi4
  have HI2 := hide (HI2'.out.below hb4)
  have HI3' := hide (HI3.out.below hb4)
  clear hr hpp hi4 hb4 hpn hpe HI3 HI2'
  go_wp2_with fail
  refine (choose_any a b n c m d la lb true w4 (HA.out.below hb04) (HB.out.below hb04) hc hd hcm hdm).mono ?_
  rintro e w5 ⟨hr, hb5⟩
  rw [choose_t, ← HP.out] at hr
  obtain ⟨a5, c5, rfl, hc5, hm5, hi5⟩ := hr.open_
  have hb05 := hb04.trans (hb5.mono hb04.size)
  rw [← HPN.out] at hc5 hi5 ⊢
  rw [← HPE.out]
  have HI5 := hide hi5
  have HI2' := hide (HI2.out.below hb5)
  have HI3 := hide (HI3'.out.below hb5)
  have HI4' := hide (HI4.out.below hb5)
  clear hr hi5 hb5 HI2 HI3' HI4
  go_wp2_with fail
  refine (sub_any a b n c m d la lb w5 (HA.out.below hb05) (HB.out.below hb05) hc hd hcm hdm).mono ?_
  rintro e w6 ⟨hr, hb6⟩
  have hs := subM_len la lb
  obtain ⟨s, hss⟩ : ∃ s, s = subM la lb := ⟨_, rfl⟩
  rw [← hss] at hr hs
  have HS := hide hss
  obtain ⟨a6, c6, rfl, hc6, hm6, hi6⟩ := hr.open_
  have hb06 := hb05.trans (hb6.mono hb05.size)
  obtain ⟨sn, hsn⟩ : ∃ sn, sn = s.1.length := ⟨_, rfl⟩
  obtain ⟨se, hse⟩ : ∃ se, se = s.2 := ⟨_, rfl⟩
  rw [← hsn] at hs hc6 hi6 ⊢
  rw [← hse]
  have HSN := hide hsn
  have HSE := hide hse
  have HI6 := hide hi6
  have HI2 := hide (HI2'.out.below hb6)
  have HI3' := hide (HI3.out.below hb6)
  have HI4 := hide (HI4'.out.below hb6)
  have HI5' := hide (HI5.out.below hb6)
  clear hr hss hi6 hb6 hsn hse HI3 HI2' HI4' HI5
  go_wp2_with fail
  refine (choose_any a b n c m d la lb false w6 (HA.out.below hb06) (HB.out.below hb06) hc hd hcm hdm).mono ?_
  rintro e w7 ⟨hr, hb7⟩
  rw [choose_f, ← HS.out] at hr
  obtain ⟨a7, c7, rfl, hc7, hm7, hi7⟩ := hr.open_
  have hb07 := hb06.trans (hb7.mono hb06.size)
  rw [← HSN.out] at hc7 hi7 ⊢
  rw [← HSE.out]
  have HI7 := hide hi7
  have HI2' := hide (HI2.out.below hb7)
  have HI3 := hide (HI3'.out.below hb7)
  have HI4' := hide (HI4.out.below hb7)
  have HI5 := hide (HI5'.out.below hb7)
  have HI6' := hide (HI6.out.below hb7)
  clear hr hi7 hb7 HI2 HI3' HI4 HI5' HI6
  go_wp2_with fail
  refine (same_same a2 a3 un c2 c3 u.1 w7 HI2'.out HI3.out hc2 hc3 (by omega)).mono ?_
  rintro e w8 ⟨rfl, hb8⟩
  go_wp2_with fail
  refine (same_same a4 a5 pn c4 c5 p.1 w8 (HI4'.out.below hb8) (HI5.out.below hb8) hc4 hc5 (by omega)).mono ?_
  rintro e w9 ⟨rfl, hb9⟩
  have hb79 := bl_trans hb8 hb9
  go_wp2_with fail
  refine (same_same a6 a7 sn c6 c7 s.1 w9 (HI6'.out.below hb79) (HI7.out.below hb79) hc6 hc7 (by omega)).mono ?_
  rintro e w10 ⟨rfl, hb10⟩
  have hb710 := bl_trans hb79 hb10
  go_wp2_with fail
  refine (awake_any _).mono ?_
  rintro e w11 ⟨rfl, hb11⟩
  go_wp2
  go_ret
  exact ⟨rfl, hb07.trans ((bl_trans hb710 hb11).mono hb07.size)⟩
end listsCombines
end Go.Proofs.Ytjiijhbkbmnhbaa
