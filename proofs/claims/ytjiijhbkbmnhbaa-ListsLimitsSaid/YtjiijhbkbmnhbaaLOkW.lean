/- The functions at valid lists; the walks of the laws ListsBoolean and ListsJoins. -/
import Derived.Test.YtjiijhbkbmnhbaaLRPhW
namespace Go.Proofs.Ytjiijhbkbmnhbaa
open Go.RowKit
set_option linter.unusedVariables false
set_option linter.unusedSimpArgs false
/-- A list came back, and no error. -/
def LOk (l : List Int) (e : Ending) (w : World) : Prop := ∃ a n c, e = .returned (.tuple #[.slice a n c, .int .i64 0]) ∧ n = l.length ∧ n ≤ c ∧ c ≤ maxLen ∧ Hid (IsI w a n l)
theorem LRes.ok {base : Nat} {r : List Int × Nat} {l : List Int} {e : Ending} {w : World} (h : LRes base r e w) (hr : r = (l, 0)) : LOk l e w := by
  subst hr
  obtain ⟨a, c, rfl, h1, h2, h3⟩ := h.open_
  exact ⟨a, _, c, rfl, rfl, h1, h2, h3⟩
theorem chk2 {la lb : List Int} (oa : okL la) (ob : okL lb) (hn : la.length ≤ 4096) (hm : lb.length ≤ 4096) : chkA [la, lb] = 0 := (chkA_zero _).2 fun l hl => by
  simp at hl
  rcases hl with rfl | rfl
  · exact okL_chk oa hn
  · exact okL_chk ob hm
theorem inter_ok (a b : Option Addr) (n c m d : Nat) (la lb : List Int) (w : World) (ha : IsI w a n la) (hb : IsI w b m lb) (hc : n ≤ c) (hd : m ≤ d) (hcm : c ≤ maxLen) (hdm : d ≤ maxLen) (oa : okL la) (ob : okL lb) (hn : n ≤ 4096) (hm : m ≤ 4096) :
    Calls Try.prog 22 #[.slice a n c, .slice b m d] w fun e w' => LOk (both la lb) e w' ∧ Below w.heap.size w w' :=
  (inter_any a b n c m d la lb w ha hb hc hd hcm hdm).mono fun e w' h => ⟨h.1.ok (by unfold interM; rw [if_pos (chk2 oa ob (by rw [← ha.1]; exact hn) (by rw [← hb.1]; exact hm))]), h.2⟩
theorem sub_ok (a b : Option Addr) (n c m d : Nat) (la lb : List Int) (w : World) (ha : IsI w a n la) (hb : IsI w b m lb) (hc : n ≤ c) (hd : m ≤ d) (hcm : c ≤ maxLen) (hdm : d ≤ maxLen) (oa : okL la) (ob : okL lb) (hn : n ≤ 4096) (hm : m ≤ 4096) :
    Calls Try.prog 24 #[.slice a n c, .slice b m d] w fun e w' => LOk (less la lb) e w' ∧ Below w.heap.size w w' :=
  (sub_any a b n c m d la lb w ha hb hc hd hcm hdm).mono fun e w' h => ⟨h.1.ok (by unfold subM; rw [if_pos (chk2 oa ob (by rw [← ha.1]; exact hn) (by rw [← hb.1]; exact hm))]), h.2⟩
theorem union_ok (a b : Option Addr) (n c m d : Nat) (la lb : List Int) (w : World) (ha : IsI w a n la) (hb : IsI w b m lb) (hc : n ≤ c) (hd : m ≤ d) (hcm : c ≤ maxLen) (hdm : d ≤ maxLen) (oa : okL la) (ob : okL lb) (hn : n + m ≤ 4096) :
    Calls Try.prog 15 #[.slice a n c, .slice b m d] w fun e w' => LOk (uni la lb) e w' ∧ Below w.heap.size w w' :=
  (unionF_any a b n c m d la lb w ha hb hc hd hcm hdm).mono fun e w' h => ⟨h.1.ok (mergeM_two oa ob (by rw [← ha.1, ← hb.1]; exact hn)), h.2⟩
theorem ll_three {w : World} {a b q : Option Addr} {n c m d r s : Nat} {la lb lq : List Int} {e : TypeId} (ha : IsI w a n la) (hb : IsI w b m lb) (hq : IsI w q r lq) (hc : n ≤ c) (hd : m ≤ d) (hs : r ≤ s) (hcm : c ≤ maxLen) (hdm : d ≤ maxLen) (hsm : s ≤ maxLen) :
    IsLL (w.alloc (.cells #[.slice a n c, .slice b m d, .slice q r s] e)) (some ⟨w.heap.size, 0, none⟩) 3 [la, lb, lq] := by
  refine ll_lit (ls := [la, lb, lq]) rfl fun i l hi => ?_
  match i, hi with
  | 0, hi => simp at hi; subst hi; exact ⟨a, c, by rw [← ha.1]; rfl, by rw [← ha.1]; exact hc, hcm, ha.2⟩
  | 1, hi => simp at hi; subst hi; exact ⟨b, d, by rw [← hb.1]; rfl, by rw [← hb.1]; exact hd, hdm, hb.2⟩
  | 2, hi => simp at hi; subst hi; exact ⟨q, s, by rw [← hq.1]; rfl, by rw [← hq.1]; exact hs, hsm, hq.2⟩
  | i + 3, hi => simp at hi
theorem merge3_ok (a b q : Option Addr) (n c m d r s : Nat) (la lb lq : List Int) (w : World) (e : TypeId) (ha : IsI w a n la) (hb : IsI w b m lb) (hq : IsI w q r lq) (hc : n ≤ c) (hd : m ≤ d) (hs : r ≤ s) (hcm : c ≤ maxLen) (hdm : d ≤ maxLen) (hsm : s ≤ maxLen)
    (oa : okL la) (ob : okL lb) (oq : okL lq) (hn : n + m + r ≤ 4096) :
    Calls Try.prog 16 #[.slice (some ⟨w.heap.size, 0, none⟩) 3 3] (w.alloc (.cells #[.slice a n c, .slice b m d, .slice q r s] e)) fun e w' => LOk (uni (uni la lb) lq) e w' ∧ Below w.heap.size w w' :=
  (merge_any _ 3 3 [la, lb, lq] _ (ll_three (e := e) ha hb hq hc hd hs hcm hdm hsm) (by decide)).mono fun e w' h => ⟨h.1.ok (mergeM_three oa ob oq (by rw [← ha.1, ← hb.1, ← hq.1]; exact hn)), bl_trans (bl_alloc (bl_refl w) _) h.2⟩
theorem shift_ok (a : Option Addr) (n c : Nat) (l : List Int) (y : Int) (w : World) (h : IsI w a n l) (hc : n ≤ c) (hcm : c ≤ maxLen) (ol : okL l) (hn : n ≤ 4096) (hy : 0 ≤ y) (hy2 : y ≤ 1000) (hm : ¬ (2147483647 : Int) ∈ l) :
    Calls Try.prog 25 #[.slice a n c, .int .i64 (-y), .int .i64 2147483647] w fun e w' => LOk (begs l y) e w' ∧ Below w.heap.size w w' :=
  (shift_any a n c l (-y) 2147483647 w h hc hcm).mono fun e w' g => ⟨g.1.ok (by
    unfold shiftM
    rw [if_pos (okL_chk ol (by rw [← h.1]; exact hn)), if_neg (by unfold badO; simp; omega), shv_back ol.1 hy hm]), g.2⟩
theorem phraseM_ok {ls : List (List Int)} {os : List Int} (h0 : ls.length ≠ 0) (h1 : ls.length = os.length) (h2 : ∀ l ∈ ls, chkL l = 0) (h3 : ∀ o ∈ os, badO o = false) : phraseM ls os = (phrP (ls.zip os), 0) := by
  unfold phraseM
  rw [if_neg (by omega), if_pos ((chkA_zero ls).2 h2), if_neg]
  intro h
  obtain ⟨x, h4, h5⟩ := List.any_eq_true.1 h
  rw [h3 x h4] at h5; cases h5
theorem badO_ok {y : Int} (h : 0 ≤ y) (h2 : y ≤ 1000) : badO y = false := by unfold badO; simp; omega
theorem phrase2_ok (a b : Option Addr) (n c m d : Nat) (la lb : List Int) (y : Int) (w : World) (e e2 : TypeId) (ha : IsI w a n la) (hb : IsI w b m lb) (hc : n ≤ c) (hd : m ≤ d) (hcm : c ≤ maxLen) (hdm : d ≤ maxLen)
    (oa : okL la) (ob : okL lb) (hn : n ≤ 4096) (hm : m ≤ 4096) (hy : 0 ≤ y) (hy2 : y ≤ 1000) :
    Calls Try.prog 20 #[.slice (some ⟨w.heap.size, 0, none⟩) 2 2, .slice (some ⟨w.heap.size + 1, 0, none⟩) 2 2] ((w.alloc (.cells #[.slice a n c, .slice b m d] e)).alloc (.cells #[.int .i64 0, .int .i64 y] e2)) fun e w' => LOk (both la (begs lb y)) e w' ∧ Below w.heap.size w w' := by
  have hll := ll_two (e := e) ha hb hc hd hcm hdm
  have p3 : IsI ((w.alloc (.cells #[.slice a n c, .slice b m d] e)).alloc (.cells #[.int .i64 0, .int .i64 y] e2)) (some ⟨w.heap.size + 1, 0, none⟩) 2 [0, y] := isI_at (by rw [World.size_alloc]) [0, y] _ _ rfl
  refine (phrase_any _ 2 2 [la, lb] _ 2 2 [0, y] _ (hll.below (bl_alloc (bl_refl _) _)) p3 (by decide) (by decide)).mono fun e w' h => ⟨h.1.ok ?_, bl_trans (bl_alloc (bl_alloc (bl_refl w) _) _) h.2⟩
  rw [phraseM_ok (by simp) rfl (fun l hl => by
    simp at hl
    rcases hl with rfl | rfl
    · exact okL_chk oa (by rw [← ha.1]; exact hn)
    · exact okL_chk ob (by rw [← hb.1]; exact hm)) (fun o ho => by
    simp at ho
    rcases ho with rfl | rfl
    · decide
    · exact badO_ok hy hy2)]
  show (phrP [(la, 0), (lb, y)], 0) = _
  rw [join2 oa]
theorem phrase3_ok (a b : Option Addr) (n c m d : Nat) (la lb : List Int) (y : Int) (w : World) (e e2 : TypeId) (ha : IsI w a n la) (hb : IsI w b m lb) (hc : n ≤ c) (hd : m ≤ d) (hcm : c ≤ maxLen) (hdm : d ≤ maxLen)
    (oa : okL la) (ob : okL lb) (hn : n ≤ 4096) (hm : m ≤ 4096) (hy : 0 ≤ y) (hy2 : y ≤ 1000) :
    Calls Try.prog 20 #[.slice (some ⟨w.heap.size, 0, none⟩) 3 3, .slice (some ⟨w.heap.size + 1, 0, none⟩) 3 3] ((w.alloc (.cells #[.slice b m d, .slice a n c, .slice b m d] e)).alloc (.cells #[.int .i64 y, .int .i64 0, .int .i64 y] e2)) fun e w' => LOk (both la (begs lb y)) e w' ∧ Below w.heap.size w w' := by
  have hll := ll_three (e := e) hb ha hb hd hc hd hdm hcm hdm
  have p3 : IsI ((w.alloc (.cells #[.slice b m d, .slice a n c, .slice b m d] e)).alloc (.cells #[.int .i64 y, .int .i64 0, .int .i64 y] e2)) (some ⟨w.heap.size + 1, 0, none⟩) 3 [y, 0, y] := isI_at (by rw [World.size_alloc]) [y, 0, y] _ _ rfl
  refine (phrase_any _ 3 3 [lb, la, lb] _ 3 3 [y, 0, y] _ (hll.below (bl_alloc (bl_refl _) _)) p3 (by decide) (by decide)).mono fun e w' h => ⟨h.1.ok ?_, bl_trans (bl_alloc (bl_alloc (bl_refl w) _) _) h.2⟩
  rw [phraseM_ok (by simp) rfl (fun l hl => by
    simp at hl
    rcases hl with rfl | rfl | rfl
    · exact okL_chk ob (by rw [← hb.1]; exact hm)
    · exact okL_chk oa (by rw [← ha.1]; exact hn)
    · exact okL_chk ob (by rw [← hb.1]; exact hm)) (fun o ho => by
    simp at ho
    rcases ho with rfl | rfl | rfl
    · exact badO_ok hy hy2
    · decide
    · exact badO_ok hy hy2)]
  show (phrP [(lb, y), (la, 0), (lb, y)], 0) = _
  rw [join3 oa ob]
namespace listsJoins
set_option maxHeartbeats 2000000 in
set_option maxRecDepth 100000 in
theorem walk (a : Option Addr) (n c : Nat) (z : List Int) (b : Option Addr) (m d : Nat) (z2 : List Int) (y : Int) (w : World) (w0 : IsRow .i64 w a n c z) (w1 : IsRow .i64 w b m d z2) (w2 : (Lit.int .i64 y).wf = true) :
    Calls Try.prog 10 #[.slice a n c, .slice b m d, .int .i64 y] w fun e w' => e = .returned (.bool true) ∧ Below w.heap.size w w' := by
  obtain ⟨la, hia, hc, hcm, _⟩ := w0.ints
  obtain ⟨lb, hib, hd, hdm, _⟩ := w1.ints
  have HA := hide hia
  have HB := hide hib
  have HLL := hide (ll_two (e := 22) hia hib hc hd hcm hdm)
  have HAN := hide hia.1
  have HBN := hide hib.1
  clear hia hib w0 w1 w2
  have hb0 := bl_refl w
  go_enter Try.func10, Try.ntmps10
  go_wp2_with fail
  refine (long_any _ 2 2 [la, lb] _ HLL.out (by decide)).mono ?_
  rintro e w1 ⟨rfl, hb1⟩
  have hbx : Below w.heap.size w w1 := bl_trans (bl_alloc (bl_refl w) _) hb1
  clear hb1
  cases hl : longM [la, lb]
  case true =>
    go_wp2
    go_ret
    exact ⟨rfl, hbx⟩
  obtain ⟨hla, hlb⟩ := long2 hl
  have hn1 : n ≤ 100 := by rw [HAN.out]; exact hla
  have hm1 : m ≤ 100 := by rw [HBN.out]; exact hlb
  replace HA := hide (HA.out.below hbx)
  replace HB := hide (HB.out.below hbx)
  replace hb0 := hb0.trans (hbx.mono hb0.size)
  clear hl HLL hbx
  by_cases hy0 : y < 0
  · go_wp2
    go_ret
    exact ⟨rfl, hb0⟩
  by_cases hy1 : 1000 < y
  · go_wp2
    go_ret
    exact ⟨rfl, hb0⟩
  go_wp2_with fail
  refine (check_any a n c la w1 HA.out hc hcm).mono ?_
  rintro e w2 ⟨rfl, hbx⟩
  (try replace HA := hide (HA.out.below hbx))
  (try replace HB := hide (HB.out.below hbx))
  (try replace HC := hide (HC.out.below hbx))
  (try replace H1 := hide (H1.out.below hbx))
  (try replace H2 := hide (H2.out.below hbx))
  (try replace H3 := hide (H3.out.below hbx))
  (try replace H4 := hide (H4.out.below hbx))
  (try replace H5 := hide (H5.out.below hbx))
  (try replace H6 := hide (H6.out.below hbx))
  (try replace H7 := hide (H7.out.below hbx))
  (try replace H8 := hide (H8.out.below hbx))
  (try replace H9 := hide (H9.out.below hbx))
  (try replace H10 := hide (H10.out.below hbx))
  (try replace H11 := hide (H11.out.below hbx))
  replace hb0 := hb0.trans (hbx.mono hb0.size)
  clear hbx
  by_cases hza : chkL la = 0
  case neg =>
    obtain ⟨q, hq⟩ : ∃ q, q = chkL la := ⟨_, rfl⟩
    rw [← hq] at hza ⊢
    have hqz : ((q : Int) != 0) = true := by rw [bne_iff_ne]; omega
    clear hza hq
    go_wp2
    go_ret
    exact ⟨rfl, hb0⟩
  rw [hza]
  go_wp2_with fail
  refine (check_any b m d lb w2 HB.out hd hdm).mono ?_
  rintro e w3 ⟨rfl, hbx⟩
  (try replace HA := hide (HA.out.below hbx))
  (try replace HB := hide (HB.out.below hbx))
  (try replace HC := hide (HC.out.below hbx))
  (try replace H1 := hide (H1.out.below hbx))
  (try replace H2 := hide (H2.out.below hbx))
  (try replace H3 := hide (H3.out.below hbx))
  (try replace H4 := hide (H4.out.below hbx))
  (try replace H5 := hide (H5.out.below hbx))
  (try replace H6 := hide (H6.out.below hbx))
  (try replace H7 := hide (H7.out.below hbx))
  (try replace H8 := hide (H8.out.below hbx))
  (try replace H9 := hide (H9.out.below hbx))
  (try replace H10 := hide (H10.out.below hbx))
  (try replace H11 := hide (H11.out.below hbx))
  replace hb0 := hb0.trans (hbx.mono hb0.size)
  clear hbx
  by_cases hzb : chkL lb = 0
  case neg =>
    obtain ⟨q, hq⟩ : ∃ q, q = chkL lb := ⟨_, rfl⟩
    rw [← hq] at hzb ⊢
    have hqz : ((q : Int) != 0) = true := by rw [bne_iff_ne]; omega
    clear hzb hq
    go_wp2
    go_ret
    exact ⟨rfl, hb0⟩
  rw [hzb]
  have OA := hide (show okL la from ((chkL_zero la).1 hza).2)
  have OB := hide (show okL lb from ((chkL_zero lb).1 hzb).2)
  clear hza hzb
  go_wp2_with fail
  refine (has_any b m d lb 2147483647 w3 HB.out (by omega)).mono ?_
  rintro e w4 ⟨rfl, hbx⟩
  (try replace HA := hide (HA.out.below hbx))
  (try replace HB := hide (HB.out.below hbx))
  (try replace HC := hide (HC.out.below hbx))
  (try replace H1 := hide (H1.out.below hbx))
  (try replace H2 := hide (H2.out.below hbx))
  (try replace H3 := hide (H3.out.below hbx))
  (try replace H4 := hide (H4.out.below hbx))
  (try replace H5 := hide (H5.out.below hbx))
  (try replace H6 := hide (H6.out.below hbx))
  (try replace H7 := hide (H7.out.below hbx))
  (try replace H8 := hide (H8.out.below hbx))
  (try replace H9 := hide (H9.out.below hbx))
  (try replace H10 := hide (H10.out.below hbx))
  (try replace H11 := hide (H11.out.below hbx))
  replace hb0 := hb0.trans (hbx.mono hb0.size)
  clear hbx
  by_cases hh : (2147483647 : Int) ∈ lb
  · rw [decide_eq_true hh]
    clear hh
    go_wp2
    go_ret
    exact ⟨rfl, hb0⟩
  rw [decide_eq_false hh]
  have HH := hide hh
  have hpl : (both la (begs lb y)).length ≤ 100 := Nat.le_trans (List.length_filter_le _ _) hla
  have hsl : (begs lb y).length ≤ 100 := Nat.le_trans (begs_len lb y) hlb
  have hrl : (less (both la (begs lb y)) la).length = 0 := by rw [less_both]; rfl
  have OP := hide (okL_both OA.out (begs lb y))
  have OS : Hid (okL (begs lb y)) := hide ⟨fun x hx => by
    have h1 := (mem_begs.1 hx)
    have h2 := OB.out.1 _ h1.2
    unfold inR at h2 ⊢
    omega, asc_begs OB.out.2 y⟩
  obtain ⟨p, hp⟩ : ∃ p, p = both la (begs lb y) := ⟨_, rfl⟩
  obtain ⟨s, hs⟩ : ∃ s, s = begs lb y := ⟨_, rfl⟩
  have HP := hide hp
  have HS := hide hs
  rw [← hp] at hpl OP hrl
  rw [← hs] at hsl OS
  have HRL := hide hrl
  clear hh hp hs hrl
  go_wp2_with fail
  refine (phrase2_ok a b n c m d la lb y w4 _ _ HA.out HB.out hc hd hcm hdm OA.out OB.out (by omega) (by omega) (by omega) (by omega)).mono ?_
  rw [← HS.out] at HP
  rw [← HS.out, ← HP.out]
  rintro e w5 ⟨⟨a5, n5, c5, rfl, hn5, hc5, hm5, H5⟩, hbx⟩
  have hl5 : n5 ≤ 100 := by rw [hn5]; exact hpl
  replace hn5 := hide hn5
  (try replace HA := hide (HA.out.below hbx))
  (try replace HB := hide (HB.out.below hbx))
  (try replace HC := hide (HC.out.below hbx))
  (try replace H1 := hide (H1.out.below hbx))
  (try replace H2 := hide (H2.out.below hbx))
  (try replace H3 := hide (H3.out.below hbx))
  (try replace H4 := hide (H4.out.below hbx))
  (try replace H5 := hide (H5.out.below hbx))
  (try replace H6 := hide (H6.out.below hbx))
  (try replace H7 := hide (H7.out.below hbx))
  (try replace H8 := hide (H8.out.below hbx))
  (try replace H9 := hide (H9.out.below hbx))
  (try replace H10 := hide (H10.out.below hbx))
  (try replace H11 := hide (H11.out.below hbx))
  replace hb0 := hb0.trans (hbx.mono hb0.size)
  clear hbx
  go_wp2_with fail
  refine (shift_ok b m d lb y w5 HB.out hd hdm OB.out (by omega) (by omega) (by omega) HH.out).mono ?_
  rw [← HS.out]
  rintro e w6 ⟨⟨a6, n6, c6, rfl, hn6, hc6, hm6, H6⟩, hbx⟩
  have hl6 : n6 ≤ 100 := by rw [hn6]; exact hsl
  replace hn6 := hide hn6
  (try replace HA := hide (HA.out.below hbx))
  (try replace HB := hide (HB.out.below hbx))
  (try replace HC := hide (HC.out.below hbx))
  (try replace H1 := hide (H1.out.below hbx))
  (try replace H2 := hide (H2.out.below hbx))
  (try replace H3 := hide (H3.out.below hbx))
  (try replace H4 := hide (H4.out.below hbx))
  (try replace H5 := hide (H5.out.below hbx))
  (try replace H6 := hide (H6.out.below hbx))
  (try replace H7 := hide (H7.out.below hbx))
  (try replace H8 := hide (H8.out.below hbx))
  (try replace H9 := hide (H9.out.below hbx))
  (try replace H10 := hide (H10.out.below hbx))
  (try replace H11 := hide (H11.out.below hbx))
  replace hb0 := hb0.trans (hbx.mono hb0.size)
  clear hbx
  go_wp2_with fail
  refine (inter_ok a a6 n c n6 c6 la s w6 HA.out H6.out hc hc6 hcm hm6 OA.out OS.out (by omega) (by omega)).mono ?_
  rw [← HP.out]
  rintro e w7 ⟨⟨a7, n7, c7, rfl, hn7, hc7, hm7, H7⟩, hbx⟩
  have hl7 : n7 ≤ 100 := by rw [hn7]; exact hpl
  replace hn7 := hide hn7
  (try replace HA := hide (HA.out.below hbx))
  (try replace HB := hide (HB.out.below hbx))
  (try replace HC := hide (HC.out.below hbx))
  (try replace H1 := hide (H1.out.below hbx))
  (try replace H2 := hide (H2.out.below hbx))
  (try replace H3 := hide (H3.out.below hbx))
  (try replace H4 := hide (H4.out.below hbx))
  (try replace H5 := hide (H5.out.below hbx))
  (try replace H6 := hide (H6.out.below hbx))
  (try replace H7 := hide (H7.out.below hbx))
  (try replace H8 := hide (H8.out.below hbx))
  (try replace H9 := hide (H9.out.below hbx))
  (try replace H10 := hide (H10.out.below hbx))
  (try replace H11 := hide (H11.out.below hbx))
  replace hb0 := hb0.trans (hbx.mono hb0.size)
  clear hbx
  go_wp2_with fail
  refine (phrase3_ok a b n c m d la lb y w7 _ _ HA.out HB.out hc hd hcm hdm OA.out OB.out (by omega) (by omega) (by omega) (by omega)).mono ?_
  rw [← HS.out, ← HP.out]
  rintro e w8 ⟨⟨a8, n8, c8, rfl, hn8, hc8, hm8, H8⟩, hbx⟩
  have hl8 : n8 ≤ 100 := by rw [hn8]; exact hpl
  replace hn8 := hide hn8
  (try replace HA := hide (HA.out.below hbx))
  (try replace HB := hide (HB.out.below hbx))
  (try replace HC := hide (HC.out.below hbx))
  (try replace H1 := hide (H1.out.below hbx))
  (try replace H2 := hide (H2.out.below hbx))
  (try replace H3 := hide (H3.out.below hbx))
  (try replace H4 := hide (H4.out.below hbx))
  (try replace H5 := hide (H5.out.below hbx))
  (try replace H6 := hide (H6.out.below hbx))
  (try replace H7 := hide (H7.out.below hbx))
  (try replace H8 := hide (H8.out.below hbx))
  (try replace H9 := hide (H9.out.below hbx))
  (try replace H10 := hide (H10.out.below hbx))
  (try replace H11 := hide (H11.out.below hbx))
  replace hb0 := hb0.trans (hbx.mono hb0.size)
  clear hbx
  go_wp2_with fail
  refine (sub_ok a5 a n5 c5 n c p la w8 H5.out HA.out hc5 hc hm5 hcm OP.out OA.out (by omega) (by omega)).mono ?_
  rintro e w9 ⟨⟨a9, n9, c9, rfl, hn9, hc9, hm9, H9⟩, hbx⟩
  have hz9 : n9 = 0 := by rw [hn9, HRL.out]
  subst hz9
  replace hn9 := hide hn9
  replace H5 := hide (H5.out.below hbx)
  replace H7 := hide (H7.out.below hbx)
  replace H8 := hide (H8.out.below hbx)
  replace hb0 := hb0.trans (hbx.mono hb0.size)
  clear hbx
  have e75 : n7 = n5 := by rw [hn7.out, hn5.out]
  have e85 : n8 = n5 := by rw [hn8.out, hn5.out]
  subst e75
  subst e85
  go_wp2_with fail
  refine (same_same a5 a7 _ c5 c7 p w9 H5.out H7.out hc5 hc7 (by omega)).mono ?_
  rintro e w10 ⟨rfl, hbx⟩
  (try replace HA := hide (HA.out.below hbx))
  (try replace HB := hide (HB.out.below hbx))
  (try replace HC := hide (HC.out.below hbx))
  (try replace H1 := hide (H1.out.below hbx))
  (try replace H2 := hide (H2.out.below hbx))
  (try replace H3 := hide (H3.out.below hbx))
  (try replace H4 := hide (H4.out.below hbx))
  (try replace H5 := hide (H5.out.below hbx))
  (try replace H6 := hide (H6.out.below hbx))
  (try replace H7 := hide (H7.out.below hbx))
  (try replace H8 := hide (H8.out.below hbx))
  (try replace H9 := hide (H9.out.below hbx))
  (try replace H10 := hide (H10.out.below hbx))
  (try replace H11 := hide (H11.out.below hbx))
  replace hb0 := hb0.trans (hbx.mono hb0.size)
  clear hbx
  go_wp2_with fail
  refine (same_same a8 a5 _ c8 c5 p w10 H8.out H5.out hc8 hc5 (by omega)).mono ?_
  rintro e w11 ⟨rfl, hbx⟩
  (try replace HA := hide (HA.out.below hbx))
  (try replace HB := hide (HB.out.below hbx))
  (try replace HC := hide (HC.out.below hbx))
  (try replace H1 := hide (H1.out.below hbx))
  (try replace H2 := hide (H2.out.below hbx))
  (try replace H3 := hide (H3.out.below hbx))
  (try replace H4 := hide (H4.out.below hbx))
  (try replace H5 := hide (H5.out.below hbx))
  (try replace H6 := hide (H6.out.below hbx))
  (try replace H7 := hide (H7.out.below hbx))
  (try replace H8 := hide (H8.out.below hbx))
  (try replace H9 := hide (H9.out.below hbx))
  (try replace H10 := hide (H10.out.below hbx))
  (try replace H11 := hide (H11.out.below hbx))
  replace hb0 := hb0.trans (hbx.mono hb0.size)
  clear hbx
  go_wp2_with fail
  refine (awake_any _).mono ?_
  rintro e w12 ⟨rfl, hbx⟩
  go_wp2
  go_ret
  exact ⟨rfl, hb0.trans (hbx.mono hb0.size)⟩
end listsJoins
namespace listsBoolean
set_option maxHeartbeats 4000000 in
set_option maxRecDepth 100000 in
theorem walk (a : Option Addr) (n c : Nat) (z : List Int) (b : Option Addr) (m d : Nat) (z2 : List Int) (q : Option Addr) (r s : Nat) (z3 : List Int) (w : World) (w0 : IsRow .i64 w a n c z) (w1 : IsRow .i64 w b m d z2) (w2 : IsRow .i64 w q r s z3) :
    Calls Try.prog 8 #[.slice a n c, .slice b m d, .slice q r s] w fun e w' => e = .returned (.bool true) ∧ Below w.heap.size w w' := by
  obtain ⟨la, hia, hc, hcm, _⟩ := w0.ints
  obtain ⟨lb, hib, hd, hdm, _⟩ := w1.ints
  obtain ⟨lq, hiq, hs, hsm, _⟩ := w2.ints
  have HA := hide hia
  have HB := hide hib
  have HC := hide hiq
  have HLL := hide (ll_three (e := 22) hia hib hiq hc hd hs hcm hdm hsm)
  have HAN := hide hia.1
  have HBN := hide hib.1
  have HQN := hide hiq.1
  clear hia hib hiq w0 w1 w2
  have hb0 := bl_refl w
  go_enter Try.func8, Try.ntmps8
  go_wp2_with fail
  refine (long_any _ 3 3 [la, lb, lq] _ HLL.out (by decide)).mono ?_
  rintro e w1 ⟨rfl, hb1⟩
  have hbx : Below w.heap.size w w1 := bl_trans (bl_alloc (bl_refl w) _) hb1
  clear hb1
  cases hl : longM [la, lb, lq]
  case true =>
    go_wp2
    go_ret
    exact ⟨rfl, hbx⟩
  have hlong := (long_all hl).1
  have hla := hlong la (by simp)
  have hlb := hlong lb (by simp)
  have hlq := hlong lq (by simp)
  have hnA : n ≤ 100 := by rw [HAN.out]; exact hla
  have hmA : m ≤ 100 := by rw [HBN.out]; exact hlb
  have hrA : r ≤ 100 := by rw [HQN.out]; exact hlq
  have HLB := hide hlb
  have HLA := hide hla
  have HLQ := hide hlq
  replace HA := hide (HA.out.below hbx)
  replace HB := hide (HB.out.below hbx)
  replace HC := hide (HC.out.below hbx)
  replace hb0 := hb0.trans (hbx.mono hb0.size)
  clear hl HLL hbx hla hlb hlq hlong
  go_wp2_with fail
  have h3 := hide (ll_three (e := 22) HA.out HB.out HC.out hc hd hs hcm hdm hsm)
  obtain ⟨wl, hwl⟩ : ∃ wl, wl = w1.alloc (.cells #[.slice a n c, .slice b m d, .slice q r s] 22) := ⟨_, rfl⟩
  have hbx : Below w1.heap.size w1 wl := by rw [hwl]; exact bl_alloc (bl_refl w1) _
  rw [← hwl] at h3 ⊢
  clear hwl
  replace HA := hide (HA.out.below hbx)
  replace HB := hide (HB.out.below hbx)
  replace HC := hide (HC.out.below hbx)
  have hbl : Below w.heap.size w wl := hb0.trans (hbx.mono hb0.size)
  have hln : ∀ l ∈ [la, lb, lq], l.length ≤ 100 := by
    intro l hl
    simp at hl
    rcases hl with rfl | rfl | rfl
    · exact HLA.out
    · exact HLB.out
    · exact HLQ.out
  have HLN := hide hln
  clear hb0 hbx hln
  go_loopw [41] (fun i wr => ∃ k : Nat, i = .int .i64 (k : Int) ∧ k ≤ 3 ∧ Hid (∀ l ∈ [la, lb, lq].take k, chkL l = 0) ∧ Below wl.heap.size wl wr) (fun i _ => 3 - (intOf i).toNat)
  case atStart => exact ⟨0, rfl, by omega, hide (by simp), bl_refl wl⟩
  case round =>
    obtain ⟨k, rfl, hk, HK, hb⟩ := hrel
    by_cases hlt : k < 3
    · obtain ⟨b1, o1, l, a', c', he1, hbl1, hx, e0, hlc, hcm', hi⟩ := (h3.out.below hb).at_ hlt
      injection he1 with he1
      injection he1 with he1 he2
      subst he1 he2
      have hkn : (k : Int) < 3 := by omega
      have hl100 := HLN.out l (List.mem_of_getElem? hx)
      obtain ⟨mm, hmm⟩ : ∃ mm, mm = l.length := ⟨_, rfl⟩
      rw [← hmm] at e0 hlc hl100 hi
      rw [Nat.zero_add] at e0
      have HI := hide hi
      have HX := hide hx
      clear hx hi hlt hmm
      go_wp2_with fail
      refine (check_any a' mm c' l wr HI.out hlc hcm').mono ?_
      rintro e w2 ⟨rfl, hb2⟩
      have hb02 := bl_trans hb hb2
      by_cases hz : chkL l = 0
      · have HZ := hide hz
        rw [hz]
        clear hz
        go_wp2
        go_roundw
        case rel =>
          refine ⟨k + 1, by go_num, by omega, hide fun y hy => ?_, hb02⟩
          rw [take_snoc' _ k l HX.out] at hy
          rcases List.mem_append.1 hy with h | h
          · exact HK.out y h
          · simp at h; subst h; exact HZ.out
        case measure => simp [intOf]; omega
      · obtain ⟨v, hv⟩ : ∃ v, v = chkL l := ⟨_, rfl⟩
        rw [← hv] at hz ⊢
        have hqz : ((v : Int) != 0) = true := by rw [bne_iff_ne]; omega
        clear hz hv
        go_wp2
        go_ret
        exact ⟨rfl, hbl.trans (hb02.mono hbl.size)⟩
    · obtain rfl : k = 3 := by omega
      have hall := HK.out
      rw [List.take_of_length_le (by simp)] at hall
      have OA := hide (show okL la from ((chkL_zero la).1 (hall la (by simp))).2)
      have OB := hide (show okL lb from ((chkL_zero lb).1 (hall lb (by simp))).2)
      have OC := hide (show okL lq from ((chkL_zero lq).1 (hall lq (by simp))).2)
      obtain ⟨w1, hw1⟩ : ∃ w1, w1 = wr := ⟨_, rfl⟩
      subst hw1
      replace HA := hide (HA.out.below hb)
      replace HB := hide (HB.out.below hb)
      replace HC := hide (HC.out.below hb)
      have hb0 : Below w.heap.size w w1 := hbl.trans (hb.mono hbl.size)
      have hla := HLA.out
      have hlb := HLB.out
      have hlq := HLQ.out
      have li : (both la lb).length ≤ 100 := Nat.le_trans (List.length_filter_le _ _) hla
      have ld : (less la lb).length ≤ 100 := Nat.le_trans (List.length_filter_le _ _) hla
      have lx : (less lb la).length ≤ 100 := Nat.le_trans (List.length_filter_le _ _) hlb
      have lu : (uni la lb).length ≤ 200 := by have := uni_len la lb; omega
      have lr : (less (uni la lb) lq).length ≤ 200 := Nat.le_trans (List.length_filter_le _ _) lu
      have ls' : (less la lq).length ≤ 100 := Nat.le_trans (List.length_filter_le _ _) hla
      have lt' : (less lb lq).length ≤ 100 := Nat.le_trans (List.length_filter_le _ _) hlb
      have oi := hide (okL_both OA.out lb)
      have od := hide (okL_less OA.out lb)
      have ox := hide (okL_less OB.out la)
      have ou := hide (okL_uni OA.out OB.out)
      have os := hide (okL_less OA.out lq)
      have ot := hide (okL_less OB.out lq)
      have hsh := hide (share_len la lb)
      have hE1 := hide (share OA.out.2 lb)
      have hE2 := hide (three OA.out.2 OB.out.2)
      have hE3 := hide (less_uni la lb)
      have hE4 := hide (less_dist OA.out.2 OB.out.2 lq)
      obtain ⟨I, hI⟩ : ∃ I, I = both la lb := ⟨_, rfl⟩
      obtain ⟨D, hD⟩ : ∃ D, D = less la lb := ⟨_, rfl⟩
      obtain ⟨X, hX⟩ : ∃ X, X = less lb la := ⟨_, rfl⟩
      obtain ⟨U, hU⟩ : ∃ U, U = uni la lb := ⟨_, rfl⟩
      obtain ⟨R, hR⟩ : ∃ R, R = less U lq := ⟨_, rfl⟩
      obtain ⟨S, hS⟩ : ∃ S, S = less la lq := ⟨_, rfl⟩
      obtain ⟨T, hT⟩ : ∃ T, T = less lb lq := ⟨_, rfl⟩
      rw [← hI] at li oi hsh hE1 hE2
      rw [← hD] at ld od hsh hE1 hE2
      rw [← hX] at lx ox hE2
      rw [← hU] at lu lr ou hE2 hE3 hE4
      rw [← hR] at lr hE4
      rw [← hS] at ls' os hE4
      rw [← hT] at lt' ot hE4
      have HI := hide hI
      have HD := hide hD
      have HX := hide hX
      have HU := hide hU
      have HR := hide hR
      have HS := hide hS
      have HT := hide hT
      clear hI hD hX hU hR hS hT hb hall hbl hlt hla hlb hlq
      go_wp2_with fail
      refine (inter_ok a b n c m d la lb w1 HA.out HB.out hc hd hcm hdm OA.out OB.out (by omega) (by omega)).mono ?_
      rw [← HI.out]
      rintro e w1 ⟨⟨a1, n1, c1, rfl, hn1, hc1, hm1, H1⟩, hbx⟩
      have hl1 : n1 ≤ 100 := by rw [hn1]; exact li
      replace hn1 := hide hn1
      (try replace HA := hide (HA.out.below hbx))
      (try replace HB := hide (HB.out.below hbx))
      (try replace HC := hide (HC.out.below hbx))
      (try replace H1 := hide (H1.out.below hbx))
      (try replace H2 := hide (H2.out.below hbx))
      (try replace H3 := hide (H3.out.below hbx))
      (try replace H4 := hide (H4.out.below hbx))
      (try replace H5 := hide (H5.out.below hbx))
      (try replace H6 := hide (H6.out.below hbx))
      (try replace H7 := hide (H7.out.below hbx))
      (try replace H8 := hide (H8.out.below hbx))
      (try replace H9 := hide (H9.out.below hbx))
      (try replace H10 := hide (H10.out.below hbx))
      (try replace H11 := hide (H11.out.below hbx))
      replace hb0 := hb0.trans (hbx.mono hb0.size)
      clear hbx
      go_wp2_with fail
      refine (sub_ok a b n c m d la lb _ HA.out HB.out hc hd hcm hdm OA.out OB.out (by omega) (by omega)).mono ?_
      rw [← HD.out]
      rintro e w2 ⟨⟨a2, n2, c2, rfl, hn2, hc2, hm2, H2⟩, hbx⟩
      have hl2 : n2 ≤ 100 := by rw [hn2]; exact ld
      replace hn2 := hide hn2
      (try replace HA := hide (HA.out.below hbx))
      (try replace HB := hide (HB.out.below hbx))
      (try replace HC := hide (HC.out.below hbx))
      (try replace H1 := hide (H1.out.below hbx))
      (try replace H2 := hide (H2.out.below hbx))
      (try replace H3 := hide (H3.out.below hbx))
      (try replace H4 := hide (H4.out.below hbx))
      (try replace H5 := hide (H5.out.below hbx))
      (try replace H6 := hide (H6.out.below hbx))
      (try replace H7 := hide (H7.out.below hbx))
      (try replace H8 := hide (H8.out.below hbx))
      (try replace H9 := hide (H9.out.below hbx))
      (try replace H10 := hide (H10.out.below hbx))
      (try replace H11 := hide (H11.out.below hbx))
      replace hb0 := hb0.trans (hbx.mono hb0.size)
      clear hbx
      go_wp2_with fail
      refine (sub_ok b a m d n c lb la _ HB.out HA.out hd hc hdm hcm OB.out OA.out (by omega) (by omega)).mono ?_
      rw [← HX.out]
      rintro e w3 ⟨⟨a3, n3, c3, rfl, hn3, hc3, hm3, H3⟩, hbx⟩
      have hl3 : n3 ≤ 100 := by rw [hn3]; exact lx
      replace hn3 := hide hn3
      (try replace HA := hide (HA.out.below hbx))
      (try replace HB := hide (HB.out.below hbx))
      (try replace HC := hide (HC.out.below hbx))
      (try replace H1 := hide (H1.out.below hbx))
      (try replace H2 := hide (H2.out.below hbx))
      (try replace H3 := hide (H3.out.below hbx))
      (try replace H4 := hide (H4.out.below hbx))
      (try replace H5 := hide (H5.out.below hbx))
      (try replace H6 := hide (H6.out.below hbx))
      (try replace H7 := hide (H7.out.below hbx))
      (try replace H8 := hide (H8.out.below hbx))
      (try replace H9 := hide (H9.out.below hbx))
      (try replace H10 := hide (H10.out.below hbx))
      (try replace H11 := hide (H11.out.below hbx))
      replace hb0 := hb0.trans (hbx.mono hb0.size)
      clear hbx
      go_wp2_with fail
      refine (union_ok a b n c m d la lb _ HA.out HB.out hc hd hcm hdm OA.out OB.out (by omega)).mono ?_
      rw [← HU.out]
      rintro e w4 ⟨⟨a4, n4, c4, rfl, hn4, hc4, hm4, H4⟩, hbx⟩
      have hl4 : n4 ≤ 200 := by rw [hn4]; exact lu
      replace hn4 := hide hn4
      (try replace HA := hide (HA.out.below hbx))
      (try replace HB := hide (HB.out.below hbx))
      (try replace HC := hide (HC.out.below hbx))
      (try replace H1 := hide (H1.out.below hbx))
      (try replace H2 := hide (H2.out.below hbx))
      (try replace H3 := hide (H3.out.below hbx))
      (try replace H4 := hide (H4.out.below hbx))
      (try replace H5 := hide (H5.out.below hbx))
      (try replace H6 := hide (H6.out.below hbx))
      (try replace H7 := hide (H7.out.below hbx))
      (try replace H8 := hide (H8.out.below hbx))
      (try replace H9 := hide (H9.out.below hbx))
      (try replace H10 := hide (H10.out.below hbx))
      (try replace H11 := hide (H11.out.below hbx))
      replace hb0 := hb0.trans (hbx.mono hb0.size)
      clear hbx
      go_wp2_with fail
      refine (union_ok a1 a2 n1 c1 n2 c2 I D _ H1.out H2.out hc1 hc2 hm1 hm2 oi.out od.out (by omega)).mono ?_
      rw [hE1.out]
      rintro e w5 ⟨⟨a5, n5, c5, rfl, hn5, hc5, hm5, H5⟩, hbx⟩
      have hl5 : n5 ≤ 100 := by rw [hn5]; exact HLA.out
      replace hn5 := hide hn5
      (try replace HA := hide (HA.out.below hbx))
      (try replace HB := hide (HB.out.below hbx))
      (try replace HC := hide (HC.out.below hbx))
      (try replace H1 := hide (H1.out.below hbx))
      (try replace H2 := hide (H2.out.below hbx))
      (try replace H3 := hide (H3.out.below hbx))
      (try replace H4 := hide (H4.out.below hbx))
      (try replace H5 := hide (H5.out.below hbx))
      (try replace H6 := hide (H6.out.below hbx))
      (try replace H7 := hide (H7.out.below hbx))
      (try replace H8 := hide (H8.out.below hbx))
      (try replace H9 := hide (H9.out.below hbx))
      (try replace H10 := hide (H10.out.below hbx))
      (try replace H11 := hide (H11.out.below hbx))
      replace hb0 := hb0.trans (hbx.mono hb0.size)
      clear hbx
      go_wp2_with fail
      refine (merge3_ok a2 a1 a3 n2 c2 n1 c1 n3 c3 D I X _ _ H2.out H1.out H3.out hc2 hc1 hc3 hm2 hm1 hm3 od.out oi.out ox.out (by omega)).mono ?_
      rw [hE2.out]
      rintro e w6 ⟨⟨a6, n6, c6, rfl, hn6, hc6, hm6, H6⟩, hbx⟩
      have hl6 : n6 ≤ 200 := by rw [hn6]; exact lu
      replace hn6 := hide hn6
      (try replace HA := hide (HA.out.below hbx))
      (try replace HB := hide (HB.out.below hbx))
      (try replace HC := hide (HC.out.below hbx))
      (try replace H1 := hide (H1.out.below hbx))
      (try replace H2 := hide (H2.out.below hbx))
      (try replace H3 := hide (H3.out.below hbx))
      (try replace H4 := hide (H4.out.below hbx))
      (try replace H5 := hide (H5.out.below hbx))
      (try replace H6 := hide (H6.out.below hbx))
      (try replace H7 := hide (H7.out.below hbx))
      (try replace H8 := hide (H8.out.below hbx))
      (try replace H9 := hide (H9.out.below hbx))
      (try replace H10 := hide (H10.out.below hbx))
      (try replace H11 := hide (H11.out.below hbx))
      replace hb0 := hb0.trans (hbx.mono hb0.size)
      clear hbx
      go_wp2_with fail
      have e5 : n5 = n := by rw [hn5.out]; exact HAN.out.symm
      have e64 : n6 = n4 := by rw [hn6.out, hn4.out]
      subst e5
      subst e64
      refine (same_same a5 a _ c5 c la _ H5.out HA.out hc5 hc (by omega)).mono ?_
      rintro e w7 ⟨rfl, hbx⟩
      (try replace HA := hide (HA.out.below hbx))
      (try replace HB := hide (HB.out.below hbx))
      (try replace HC := hide (HC.out.below hbx))
      (try replace H1 := hide (H1.out.below hbx))
      (try replace H2 := hide (H2.out.below hbx))
      (try replace H3 := hide (H3.out.below hbx))
      (try replace H4 := hide (H4.out.below hbx))
      (try replace H5 := hide (H5.out.below hbx))
      (try replace H6 := hide (H6.out.below hbx))
      (try replace H7 := hide (H7.out.below hbx))
      (try replace H8 := hide (H8.out.below hbx))
      (try replace H9 := hide (H9.out.below hbx))
      (try replace H10 := hide (H10.out.below hbx))
      (try replace H11 := hide (H11.out.below hbx))
      replace hb0 := hb0.trans (hbx.mono hb0.size)
      clear hbx
      go_wp2_with fail
      refine (same_same a6 a4 _ c6 c4 U _ H6.out H4.out hc6 hc4 (by omega)).mono ?_
      rintro e w8 ⟨rfl, hbx⟩
      (try replace HA := hide (HA.out.below hbx))
      (try replace HB := hide (HB.out.below hbx))
      (try replace HC := hide (HC.out.below hbx))
      (try replace H1 := hide (H1.out.below hbx))
      (try replace H2 := hide (H2.out.below hbx))
      (try replace H3 := hide (H3.out.below hbx))
      (try replace H4 := hide (H4.out.below hbx))
      (try replace H5 := hide (H5.out.below hbx))
      (try replace H6 := hide (H6.out.below hbx))
      (try replace H7 := hide (H7.out.below hbx))
      (try replace H8 := hide (H8.out.below hbx))
      (try replace H9 := hide (H9.out.below hbx))
      (try replace H10 := hide (H10.out.below hbx))
      (try replace H11 := hide (H11.out.below hbx))
      replace hb0 := hb0.trans (hbx.mono hb0.size)
      clear hbx
      have hsum : (n1 : Int) + (n2 : Int) = (n5 : Int) := by
        have h1 := hsh.out
        have h2 := hn1.out
        have h3 := hn2.out
        have h4 := HAN.out
        omega
      go_wp2_with fail
      refine (sub_ok a a4 _ c _ c4 la U _ HA.out H4.out hc hc4 hcm hm4 OA.out ou.out (by omega) (by omega)).mono ?_
      rw [hE3.out]
      rintro e w9 ⟨⟨a9, n9, c9, rfl, hn9, hc9, hm9, H9⟩, hbx⟩
      have hl9 : n9 ≤ 0 := by rw [hn9]; exact Nat.le_refl 0
      replace hn9 := hide hn9
      (try replace HA := hide (HA.out.below hbx))
      (try replace HB := hide (HB.out.below hbx))
      (try replace HC := hide (HC.out.below hbx))
      (try replace H1 := hide (H1.out.below hbx))
      (try replace H2 := hide (H2.out.below hbx))
      (try replace H3 := hide (H3.out.below hbx))
      (try replace H4 := hide (H4.out.below hbx))
      (try replace H5 := hide (H5.out.below hbx))
      (try replace H6 := hide (H6.out.below hbx))
      (try replace H7 := hide (H7.out.below hbx))
      (try replace H8 := hide (H8.out.below hbx))
      (try replace H9 := hide (H9.out.below hbx))
      (try replace H10 := hide (H10.out.below hbx))
      (try replace H11 := hide (H11.out.below hbx))
      replace hb0 := hb0.trans (hbx.mono hb0.size)
      clear hbx
      go_wp2_with fail
      refine (sub_ok a4 q _ c4 r s U lq _ H4.out HC.out hc4 hs hm4 hsm ou.out OC.out (by omega) (by omega)).mono ?_
      rw [← HR.out]
      rintro e w10 ⟨⟨a10, n10, c10, rfl, hn10, hc10, hm10, H10⟩, hbx⟩
      have hl10 : n10 ≤ 200 := by rw [hn10]; exact lr
      replace hn10 := hide hn10
      (try replace HA := hide (HA.out.below hbx))
      (try replace HB := hide (HB.out.below hbx))
      (try replace HC := hide (HC.out.below hbx))
      (try replace H1 := hide (H1.out.below hbx))
      (try replace H2 := hide (H2.out.below hbx))
      (try replace H3 := hide (H3.out.below hbx))
      (try replace H4 := hide (H4.out.below hbx))
      (try replace H5 := hide (H5.out.below hbx))
      (try replace H6 := hide (H6.out.below hbx))
      (try replace H7 := hide (H7.out.below hbx))
      (try replace H8 := hide (H8.out.below hbx))
      (try replace H9 := hide (H9.out.below hbx))
      (try replace H10 := hide (H10.out.below hbx))
      (try replace H11 := hide (H11.out.below hbx))
      replace hb0 := hb0.trans (hbx.mono hb0.size)
      clear hbx
      go_wp2_with fail
      refine (sub_ok a q _ c r s la lq _ HA.out HC.out hc hs hcm hsm OA.out OC.out (by omega) (by omega)).mono ?_
      rw [← HS.out]
      rintro e w11 ⟨⟨a11, n11, c11, rfl, hn11, hc11, hm11, H11⟩, hbx⟩
      have hl11 : n11 ≤ 100 := by rw [hn11]; exact ls'
      replace hn11 := hide hn11
      (try replace HA := hide (HA.out.below hbx))
      (try replace HB := hide (HB.out.below hbx))
      (try replace HC := hide (HC.out.below hbx))
      (try replace H1 := hide (H1.out.below hbx))
      (try replace H2 := hide (H2.out.below hbx))
      (try replace H3 := hide (H3.out.below hbx))
      (try replace H4 := hide (H4.out.below hbx))
      (try replace H5 := hide (H5.out.below hbx))
      (try replace H6 := hide (H6.out.below hbx))
      (try replace H7 := hide (H7.out.below hbx))
      (try replace H8 := hide (H8.out.below hbx))
      (try replace H9 := hide (H9.out.below hbx))
      (try replace H10 := hide (H10.out.below hbx))
      (try replace H11 := hide (H11.out.below hbx))
      replace hb0 := hb0.trans (hbx.mono hb0.size)
      clear hbx
      go_wp2_with fail
      refine (sub_ok b q m d r s lb lq _ HB.out HC.out hd hs hdm hsm OB.out OC.out (by omega) (by omega)).mono ?_
      rw [← HT.out]
      rintro e w12 ⟨⟨a12, n12, c12, rfl, hn12, hc12, hm12, H12⟩, hbx⟩
      have hl12 : n12 ≤ 100 := by rw [hn12]; exact lt'
      replace hn12 := hide hn12
      (try replace HA := hide (HA.out.below hbx))
      (try replace HB := hide (HB.out.below hbx))
      (try replace HC := hide (HC.out.below hbx))
      (try replace H1 := hide (H1.out.below hbx))
      (try replace H2 := hide (H2.out.below hbx))
      (try replace H3 := hide (H3.out.below hbx))
      (try replace H4 := hide (H4.out.below hbx))
      (try replace H5 := hide (H5.out.below hbx))
      (try replace H6 := hide (H6.out.below hbx))
      (try replace H7 := hide (H7.out.below hbx))
      (try replace H8 := hide (H8.out.below hbx))
      (try replace H9 := hide (H9.out.below hbx))
      (try replace H10 := hide (H10.out.below hbx))
      (try replace H11 := hide (H11.out.below hbx))
      replace hb0 := hb0.trans (hbx.mono hb0.size)
      clear hbx
      go_wp2_with fail
      refine (union_ok a11 a12 n11 c11 n12 c12 S T _ H11.out H12.out hc11 hc12 hm11 hm12 os.out ot.out (by omega)).mono ?_
      rw [← hE4.out]
      rintro e w13 ⟨⟨a13, n13, c13, rfl, hn13, hc13, hm13, H13⟩, hbx⟩
      replace H10 := hide (H10.out.below hbx)
      replace hb0 := hb0.trans (hbx.mono hb0.size)
      clear hbx
      obtain rfl : n13 = n10 := by rw [hn13, hn10.out]
      obtain rfl : n9 = 0 := by omega
      clear hn13
      go_wp2_with fail
      refine (same_same a10 a13 _ c10 c13 R _ H10.out H13.out hc10 hc13 (by omega)).mono ?_
      rintro e w14 ⟨rfl, hbx⟩
      replace hb0 := hb0.trans (hbx.mono hb0.size)
      clear hbx
      go_wp2_with fail
      refine (awake_any _).mono ?_
      rintro e w15 ⟨rfl, hbx⟩
      go_wp2
      go_ret
      exact ⟨rfl, hb0.trans (hbx.mono hb0.size)⟩
end listsBoolean
end Go.Proofs.Ytjiijhbkbmnhbaa
