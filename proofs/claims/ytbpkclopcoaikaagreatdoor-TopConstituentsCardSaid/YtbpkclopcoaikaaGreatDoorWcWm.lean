/- The walk of bracket's check: at the nodes of a valid corpus it finds no error. -/
import Derived.Test.YtbpkclopcoaikaaGreatDoorWbWm
import Derived.Test.YtbpkclopcoaikaaGreatDoorMe
namespace Go.Proofs.YtbpkclopcoaikaaGreatDoor
open Go.RowKit
set_option linter.unusedVariables false
set_option linter.unusedSimpArgs false
/-- The ends of the last children so far. -/
structure EndsS (l : List Nd) (z : List Int) (n k : Nat) : Prop where
  len : z.length = n + 1
  at_ : ∀ (j : Nat), j ≤ n → ((∀ (s : Nat) (y : Nd), s < k → l[s]? = some y → y.p ≠ (j : Int) - 1) ∧ z[j]? = some 0) ∨
    ∃ (s : Nat) (y : Nd), s < k ∧ l[s]? = some y ∧ y.p = (j : Int) - 1 ∧ (∀ (m : Nat) (u : Nd), s < m → m < k → l[m]? = some u → u.p ≠ (j : Int) - 1) ∧ z[j]? = some y.e
theorem EndsS.start (l : List Nd) (n : Nat) : EndsS l (List.replicate (n + 1) 0) n 0 := ⟨by simp, fun j hj => .inl ⟨fun s y h => absurd h (by omega), by rw [List.getElem?_replicate, if_pos (by omega)]⟩⟩
theorem EndsS.next {l : List Nd} {z : List Int} {n k j : Nat} {x : Nd} (h : EndsS l z n k) (hx : l[k]? = some x) (hj : j ≤ n) (hp : x.p = (j : Int) - 1) : EndsS l (z.set j x.e) n (k + 1) := by
  refine ⟨by rw [List.length_set, h.len], fun i hi => ?_⟩
  by_cases e : j = i
  · subst e
    refine .inr ⟨k, x, by omega, hx, hp, fun m u h1 h2 => by omega, ?_⟩
    rw [List.getElem?_set_self (by rw [h.len]; omega)]
  · rw [List.getElem?_set_ne e]
    rcases h.at_ i hi with ⟨h1, h2⟩ | ⟨s, y, h1, h2, h3, h4, h5⟩
    · refine .inl ⟨fun s y hs hy => ?_, h2⟩
      rcases Nat.lt_or_ge s k with h3 | h3
      · exact h1 s y h3 hy
      · obtain rfl : s = k := by omega
        rw [hx] at hy
        injection hy with hy
        subst hy
        omega
    · refine .inr ⟨s, y, by omega, h2, h3, fun m u hm1 hm2 hu => ?_, h5⟩
      rcases Nat.lt_or_ge m k with h6 | h6
      · exact h4 m u hm1 h6 hu
      · obtain rfl : m = k := by omega
        rw [hx] at hu
        injection hu with hu
        subst hu
        omega
theorem EndsS.fits {l : List Nd} {X : List Tx} {z : List Int} {n k j : Nat} {x : Nd} (h : EndsS l z n k) (ho : NOk l X k x) (hb : 0 ≤ x.b) (hj : j ≤ n) (hp : x.p = (j : Int) - 1) : ∃ v, z[j]? = some v ∧ v ≤ x.b := by
  rcases h.at_ j hj with ⟨_, h2⟩ | ⟨s, y, h1, h2, h3, h4, h5⟩
  · exact ⟨0, h2, hb⟩
  · exact ⟨y.e, h5, ho.sis s y h1 h2 (by omega) (fun m u hm1 hm2 hu => by have := h4 m u hm1 hm2 hu; omega)⟩
/-- The depths so far. -/
structure DepsS (z : List Int) (n k : Nat) : Prop where
  len : z.length = n + 1
  at_ : ∀ j, j ≤ k → ∃ v, z[j]? = some v ∧ 0 ≤ v ∧ v ≤ (j : Int)
theorem DepsS.start (n : Nat) : DepsS (List.replicate (n + 1) 0) n 0 := ⟨by simp, fun j hj => ⟨0, by rw [List.getElem?_replicate, if_pos (by omega)], by omega, by omega⟩⟩
theorem DepsS.next {z : List Int} {n k : Nat} {v : Int} (h : DepsS z n k) (hk : k < n) (h0 : 0 ≤ v) (hv : v ≤ (k : Int) + 1) : DepsS (z.set (k + 1) v) n (k + 1) := by
  refine ⟨by rw [List.length_set, h.len], fun j hj => ?_⟩
  by_cases e : k + 1 = j
  · subst e
    exact ⟨v, by rw [List.getElem?_set_self (by rw [h.len]; omega)], h0, by omega⟩
  · rw [List.getElem?_set_ne e]
    exact h.at_ j (by omega)
set_option maxHeartbeats 16000000 in
set_option maxRecDepth 100000 in
theorem bcheck_any (a : Option Addr) (n cp : Nat) (l : List Nd) (X : List Tx) (t : Nat) (w : World) (h : IsN w a n l) (hn : n ≤ 40) (ht : t ≤ 80) (ho : NodesOk l X) (hX : TextsOk X t) :
    Calls Tryz.prog 30 #[.slice a n cp, .int .i64 (t : Int)] w fun e w' => e = .returned (.int .i64 0) ∧ Below w.heap.size w w' := by
  obtain ⟨i2, hi2, hz0, hz1, hz2⟩ := info_parts info_int
  have HI := hide h
  have HO := hide ho
  have HX := hide hX
  have HP := hide (nodes_preo ho)
  clear h ho hX
  go_enter Tryz.func30, Tryz.ntmps30
  go_wp2_with (at_make; first
    | ((refine wpList_make_full _ rfl (.tmp 11) (.tmp 11) 27 rfl w.heap.size 3 i2 _ 1 Tryz.underlying27 hi2 hz0 hz1 .i64 .i64 _ _ (n + 1) rfl rfl rfl rfl (by rw [hz2]; omega) (by simp only [maxLen]; omega) (Nat.le_refl _) ?_); intro w2 hown hg1; rw [made_one _ rfl] at hown; have hb2 : Below w.heap.size w w2 := bl_grown (bl_refl w) hg1 (fun k h => by cases h); have HO2 := hide hown; have HBm := hide hb2; clear hown hg1 hb2)
    | (go_loud (refine wpList_make_full _ rfl (.tmp 15) (.tmp 15) 27 rfl w2.heap.size 3 i2 _ 1 Tryz.underlying27 hi2 hz0 hz1 .i64 .i64 _ _ (n + 1) rfl rfl rfl rfl (by rw [hz2]; omega) (by simp only [maxLen]; omega) (Nat.le_refl _) ?_); intro w3 hown hg1; rw [made_one _ rfl] at hown; have hb2 : Below w2.heap.size w2 w3 := bl_grown (bl_refl w2) hg1 (fun k h => by cases h); have HO3 := hide hown; have HBn := hide hb2; clear hown hg1 hb2))
  obtain ⟨r0, hr0⟩ : ∃ g, g = w.heap.size := ⟨_, rfl⟩
  obtain ⟨r1, hr1⟩ : ∃ g, g = w2.heap.size := ⟨_, rfl⟩
  have HXs := hide (HBm.out.trans (HBn.out.mono HBm.out.size))
  have hsz01 : w.heap.size < w2.heap.size := (ownG_lt HO2.out rfl).2
  have HOE := hide (show w3.ownsRow r0 3 1 (.slice (some ⟨r0, 0, none⟩) (n + 1) (n + 1)) (n + 1) ((List.replicate (n + 1) (0 : Int)).map iv) by rw [List.map_replicate, hr0]; exact own_below HO2.out HBn.out)
  have HOD := hide (show w3.ownsRow r1 3 1 (.slice (some ⟨r1, 0, none⟩) (n + 1) (n + 1)) (n + 1) ((List.replicate (n + 1) (0 : Int)).map iv) by rw [List.map_replicate, hr1]; exact HO3.out)
  rw [← hr0, ← hr1]
  have HR := hide (And.intro hr0 (show r0 < r1 by omega))
  have HE0 := hide (EndsS.start l n)
  have HD0 := hide (DepsS.start n)
  generalize List.replicate (n + 1) (0 : Int) = z0 at *
  clear hr0 hr1 hsz01 HO2 HO3 HBm HBn
  go_loopw [19] (fun kv wr => ∃ (k : Nat) (ze zd : List Int), kv = .int .i64 (k : Int) ∧ k ≤ n ∧ Hid (EndsS l ze n k) ∧ Hid (DepsS zd n k) ∧ Hid (wr.ownsRow r0 3 1 (.slice (some ⟨r0, 0, none⟩) (n + 1) (n + 1)) (n + 1) (ze.map iv)) ∧ Hid (wr.ownsRow r1 3 1 (.slice (some ⟨r1, 0, none⟩) (n + 1) (n + 1)) (n + 1) (zd.map iv)) ∧ Hid (Below w.heap.size w wr)) (fun kv _ => n - (intOf kv).toNat)
  case atStart => exact ⟨0, z0, z0, rfl, Nat.zero_le _, HE0, HD0, HOE, HOD, HXs⟩
  case round =>
    obtain ⟨k, ze, zd, rfl, hk, HE, HD, HWE, HWD, HXk⟩ := hrel
    by_cases hkn : k < n
    · have hki : (k : Int) < (n : Int) := by omega
      obtain ⟨b, o, ⟨xl, xb, xe, xp⟩, rfl, hbl, hx, e0, e1, e2, e3⟩ := (HI.out.below HXk.out).at_ hkn
      simp only at e0 e1 e2 e3
      have ho := HO.out k _ hx
      have hnm := ho.nm
      have hne := ho.ne
      obtain ⟨tx, htm, htb, hte⟩ := ho.wi
      have htx := HX.out tx htm
      simp only at hnm hne htb hte
      have hb0 : 0 ≤ xb := by omega
      have het : xe ≤ (t : Int) := by omega
      have hxp := preo_lt HP.out (k + 1) k xp (by omega) (by rw [List.getElem?_map, hx]; rfl)
      have hanc : xp = -1 ∨ ∃ q m : Nat, xp = (q : Int) ∧ (k : Int) - 1 = (m : Int) ∧ AncS (l.map Nd.p) q m := by
        rcases ho.pre with h | ⟨q, j, h1, h2, h3⟩
        · exact .inl h
        · exact .inr ⟨q, j, h1, by omega, h3⟩
      have HOK := hide ho
      have HXX := hide hx
      have HINN := hide ho.inn
      obtain ⟨W2, hW2⟩ : ∃ W2, W2 = wr.alloc (.cells #[.string (bstr xl), .int .i64 xb, .int .i64 xe, .int .i64 xp] 33 (0, 0)) := ⟨_, rfl⟩
      have hb2 := bl_alloc (bl_refl wr) (.cells #[.string (bstr xl), .int .i64 xb, .int .i64 xe, .int .i64 xp] 33 (0, 0))
      have hnw := heap_alloc_new wr (.cells #[.string (bstr xl), .int .i64 xb, .int .i64 xe, .int .i64 xp] 33 (0, 0))
      rw [← hW2] at hb2 hnw
      have HW2 := hide hW2
      have HNW := hide hnw
      have HX2 := hide (HXk.out.trans (hb2.mono HXk.out.size))
      have HWE2 := hide (own_below HWE.out hb2)
      have HWD2 := hide (own_below HWD.out hb2)
      have HI2 := hide (HI.out.below HX2.out)
      have HNV : Hid (∀ wx, Calls Tryz.prog 50 #[.string (bstr xl)] wx fun e w' => e = .returned (.bool true) ∧ wx = w') := hide (fun wx => hnm ▸ mname_any xl wx)
      have HAN : Hid (∀ wx, Below w.heap.size w wx → Calls Tryz.prog 51 #[.slice (some ⟨b, o, none⟩) n cp, .int .i64 xp, .int .i64 ((k : Int) - 1)] wx fun e w' => e = .returned (.bool true) ∧ wx = w') := hide (fun wx hwx => isanc_any _ n cp l xp ((k : Int) - 1) wx (HI.out.below hwx) (by omega) HP.out (by omega) (by omega) hanc)
      clear hW2 hb2 hnw hx ho hanc htx htm htb hte hnm hbl
      have n1 : ¬ xb < 0 := by omega
      have n2 : ¬ xe ≤ xb := by omega
      have n3 : ¬ (t : Int) < xe := by omega
      have hkk : (0 : Int) ≤ (k : Int) := by omega
      go_wp2_with fail
      refine (HNV.out _).mono ?_
      rintro e w' ⟨rfl, rfl⟩
      go_wp2_with fail
      rw [← HW2.out]
      refine (HAN.out _ HX2.out).mono ?_
      rintro e w' ⟨rfl, rfl⟩
      have HNB : Hid (Blk W2 wr.heap.size [.string (bstr xl), .int .i64 xb, .int .i64 xe, .int .i64 xp] 33) := hide HNW.out
      have hg0 : wr.heap.size ≠ r0 := by have h : r0 < wr.heap.size := (ownG_lt HWE.out rfl).2; omega
      have hg1 : wr.heap.size ≠ r1 := by have h : r1 < wr.heap.size := (ownG_lt HWD.out rfl).2; omega
      have HGN := hide (And.intro hg0 hg1)
      clear hg0 hg1 e0 e1 e2 e3
      generalize wr.heap.size = g at *
      clear HNW HW2 HXk HWE HWD HNV HAN
      by_cases hx1 : xp = -1
      · subst hx1
        have hx0 : ¬ (0 : Int) ≤ -1 := by omega
        have hx2 : decide ((0 : Int) ≤ -1) = false := by decide
        have k1 := HNB.out.cell (k := 1) rfl
        have k2 := HNB.out.cell (k := 2) rfl
        have k3 := HNB.out.cell (k := 3) rfl
        go_wp2_with fail
        go_quiet (fail)
        obtain ⟨w5, hw5⟩ : ∃ w5, w5 = W2.drewN nq := ⟨_, rfl⟩
        have HB5 : Hid (Below W2.heap.size W2 w5) := hide (by rw [hw5]; exact bl_drewN (bl_refl W2) nq)
        rw [← hw5]
        clear hw5 k1 k2 k3
        have HWE2 := hide (own_below HWE2.out HB5.out)
        have HWD2 := hide (own_below HWD2.out HB5.out)
        have HI2 := hide (HI2.out.below HB5.out)
        have HX2 := hide (HX2.out.trans (HB5.out.mono HX2.out.size))
        have HNB := hide (HNB.out.below HB5.out)
        clear HB5
        generalize W2 = wold at *
        generalize w5 = W2 at *
        obtain ⟨ev, hev, hevb⟩ := HE.out.fits (j := 0) HOK.out hb0 (by omega) (by simp only; omega)
        obtain ⟨dv, hdv, hd0, hd1⟩ := HD.out.at_ (0) (by omega)
        have hd40 : dv ≤ 40 := by omega
        have hevn : ¬ xb < ev := by simp only at hevb; omega
        have m1 := own_at_i HWE2.out hev (show 0 < n + 1 by omega)
        have k1 := HNB.out.cell (k := 1) rfl
        have k2 := HNB.out.cell (k := 2) rfl
        have k3 := HNB.out.cell (k := 3) rfl
        go_wp2_with fail
        go_quiet (fail)
        obtain ⟨w5, hw5⟩ : ∃ w5, w5 = W2.drewN nq := ⟨_, rfl⟩
        have HB5 : Hid (Below W2.heap.size W2 w5) := hide (by rw [hw5]; exact bl_drewN (bl_refl W2) nq)
        rw [← hw5]
        clear hw5 k1 k2 k3 m1
        have HWE2 := hide (own_below HWE2.out HB5.out)
        have HWD2 := hide (own_below HWD2.out HB5.out)
        have HI2 := hide (HI2.out.below HB5.out)
        have HX2 := hide (HX2.out.trans (HB5.out.mono HX2.out.size))
        have HNB := hide (HNB.out.below HB5.out)
        clear HB5
        generalize W2 = wold at *
        generalize w5 = W2 at *
        have m1 := own_at_i HWE2.out hev (show 0 < n + 1 by omega)
        have z1 := own_frz HWE2.out (show 0 < n + 1 by omega)
        have k1 := HNB.out.cell (k := 1) rfl
        have k2 := HNB.out.cell (k := 2) rfl
        have k3 := HNB.out.cell (k := 3) rfl
        have HWE6 := hide (own_set_i HWE2.out (show 0 < n + 1 by omega) xe)
        have HWD6 := hide (ownG_setne HWD2.out (g := r0) (by simp only [Value.ownBlock]; intro h; injection h with h; have := HR.out.2; omega) (0) (.int .i64 xe))
        have HNB6 := hide (HNB.out.setne HGN.out.1 (0) (.int .i64 xe))
        have HX6 := hide (HX2.out.setCell (p := ⟨r0, 0, none⟩) (by rw [HR.out.1]; exact Nat.le_refl _) (.int .i64 xe))
        obtain ⟨ov, hov⟩ : ∃ x, zd[k + 1]? = some x := ⟨_, List.getElem?_eq_getElem (by rw [HD.out.len]; omega)⟩
        have d1 := own_at_i HWD6.out hdv (show 0 < n + 1 by omega)
        have d2 := own_at_i HWD6.out hov (show k + 1 < n + 1 by omega)
        have z2 := own_frz HWD6.out (show k + 1 < n + 1 by omega)
        have j3 := HNB6.out.cell (k := 3) rfl
        have HWD7 := hide (own_set_i HWD6.out (show k + 1 < n + 1 by omega) (dv + 1))
        have HWE7 := hide (ownG_setne HWE6.out (g := r1) (by simp only [Value.ownBlock]; intro h; injection h with h; have := HR.out.2; omega) (k + 1) (.int .i64 (dv + 1)))
        have HX7 := hide (HX6.out.setCell (p := ⟨r1, k + 1, none⟩) (by have := HR.out; show w.heap.size ≤ r1; omega) (.int .i64 (dv + 1)))
        have d3 := own_at_i HWD7.out (show (zd.set (k + 1) (dv + 1))[k + 1]? = some (dv + 1) by rw [List.getElem?_set_self (by rw [HD.out.len]; omega)]) (show k + 1 < n + 1 by omega)
        have HE7 := hide (HE.out.next HXX.out (j := 0) (by omega) (by simp only; omega))
        have HD7 := hide (HD.out.next hkn (v := dv + 1) (by omega) (by omega))
        have hdn : ¬ 40 < dv + 1 := by omega
        clear hov hdv hev hevb
        go_wp2
        go_roundw
        case rel => exact ⟨k + 1, _, _, by go_num, by omega, HE7, HD7, HWE7, HWD7, HX7⟩
        case measure => simp [intOf]; omega
      · obtain ⟨q, rfl⟩ := Int.eq_ofNat_of_zero_le (show 0 ≤ xp by omega)
        have hqk : q < k := by omega
        have hx0 : (0 : Int) ≤ (q : Int) := by omega
        have hx2 : (q : Int) < (n : Int) := by omega
        obtain ⟨b', o', ⟨yl, yb, ye, yp⟩, hb', _, hy, f0, f1, f2, f3⟩ := HI2.out.at_ (show q < n by omega)
        injection hb' with hb'
        injection hb' with q1 q2
        subst q1 q2
        simp only at f0 f1 f2 f3
        have hin := HINN.out q _ rfl hy
        simp only at hin
        have y1 : ¬ xb < yb := by omega
        have y2 : ¬ ye < xe := by omega
        have y3 : decide (xb < yb) = false := decide_eq_false y1
        clear hy
        have k1 := HNB.out.cell (k := 1) rfl
        have k2 := HNB.out.cell (k := 2) rfl
        have k3 := HNB.out.cell (k := 3) rfl
        go_wp2_with fail
        go_quiet (fail)
        obtain ⟨w5, hw5⟩ : ∃ w5, w5 = W2.drewN nq := ⟨_, rfl⟩
        have HB5 : Hid (Below W2.heap.size W2 w5) := hide (by rw [hw5]; exact bl_drewN (bl_refl W2) nq)
        rw [← hw5]
        clear hw5 k1 k2 k3 f0 f1 f2 f3
        have HWE2 := hide (own_below HWE2.out HB5.out)
        have HWD2 := hide (own_below HWD2.out HB5.out)
        have HI2 := hide (HI2.out.below HB5.out)
        have HX2 := hide (HX2.out.trans (HB5.out.mono HX2.out.size))
        have HNB := hide (HNB.out.below HB5.out)
        clear HB5
        generalize W2 = wold at *
        generalize w5 = W2 at *
        obtain ⟨ev, hev, hevb⟩ := HE.out.fits (j := q + 1) HOK.out hb0 (by omega) (by simp only; omega)
        obtain ⟨dv, hdv, hd0, hd1⟩ := HD.out.at_ (q + 1) (by omega)
        have hd40 : dv ≤ 40 := by omega
        have hevn : ¬ xb < ev := by simp only at hevb; omega
        have m1 := own_at_i HWE2.out hev (show q + 1 < n + 1 by omega)
        have k1 := HNB.out.cell (k := 1) rfl
        have k2 := HNB.out.cell (k := 2) rfl
        have k3 := HNB.out.cell (k := 3) rfl
        go_wp2_with fail
        go_quiet (fail)
        obtain ⟨w5, hw5⟩ : ∃ w5, w5 = W2.drewN nq := ⟨_, rfl⟩
        have HB5 : Hid (Below W2.heap.size W2 w5) := hide (by rw [hw5]; exact bl_drewN (bl_refl W2) nq)
        rw [← hw5]
        clear hw5 k1 k2 k3 m1
        have HWE2 := hide (own_below HWE2.out HB5.out)
        have HWD2 := hide (own_below HWD2.out HB5.out)
        have HI2 := hide (HI2.out.below HB5.out)
        have HX2 := hide (HX2.out.trans (HB5.out.mono HX2.out.size))
        have HNB := hide (HNB.out.below HB5.out)
        clear HB5
        generalize W2 = wold at *
        generalize w5 = W2 at *
        have m1 := own_at_i HWE2.out hev (show q + 1 < n + 1 by omega)
        have z1 := own_frz HWE2.out (show q + 1 < n + 1 by omega)
        have k1 := HNB.out.cell (k := 1) rfl
        have k2 := HNB.out.cell (k := 2) rfl
        have k3 := HNB.out.cell (k := 3) rfl
        have HWE6 := hide (own_set_i HWE2.out (show q + 1 < n + 1 by omega) xe)
        have HWD6 := hide (ownG_setne HWD2.out (g := r0) (by simp only [Value.ownBlock]; intro h; injection h with h; have := HR.out.2; omega) (q + 1) (.int .i64 xe))
        have HNB6 := hide (HNB.out.setne HGN.out.1 (q + 1) (.int .i64 xe))
        have HX6 := hide (HX2.out.setCell (p := ⟨r0, q + 1, none⟩) (by rw [HR.out.1]; exact Nat.le_refl _) (.int .i64 xe))
        obtain ⟨ov, hov⟩ : ∃ x, zd[k + 1]? = some x := ⟨_, List.getElem?_eq_getElem (by rw [HD.out.len]; omega)⟩
        have d1 := own_at_i HWD6.out hdv (show q + 1 < n + 1 by omega)
        have d2 := own_at_i HWD6.out hov (show k + 1 < n + 1 by omega)
        have z2 := own_frz HWD6.out (show k + 1 < n + 1 by omega)
        have j3 := HNB6.out.cell (k := 3) rfl
        have HWD7 := hide (own_set_i HWD6.out (show k + 1 < n + 1 by omega) (dv + 1))
        have HWE7 := hide (ownG_setne HWE6.out (g := r1) (by simp only [Value.ownBlock]; intro h; injection h with h; have := HR.out.2; omega) (k + 1) (.int .i64 (dv + 1)))
        have HX7 := hide (HX6.out.setCell (p := ⟨r1, k + 1, none⟩) (by have := HR.out; show w.heap.size ≤ r1; omega) (.int .i64 (dv + 1)))
        have d3 := own_at_i HWD7.out (show (zd.set (k + 1) (dv + 1))[k + 1]? = some (dv + 1) by rw [List.getElem?_set_self (by rw [HD.out.len]; omega)]) (show k + 1 < n + 1 by omega)
        have HE7 := hide (HE.out.next HXX.out (j := q + 1) (by omega) (by simp only; omega))
        have HD7 := hide (HD.out.next hkn (v := dv + 1) (by omega) (by omega))
        have hdn : ¬ 40 < dv + 1 := by omega
        clear hov hdv hev hevb
        go_wp2
        go_roundw
        case rel => exact ⟨k + 1, _, _, by go_num, by omega, HE7, HD7, HWE7, HWD7, HX7⟩
        case measure => simp [intOf]; omega
    · obtain rfl : k = n := by omega
      have hki : ¬ (k : Int) < (k : Int) := by omega
      go_wp2
      go_ret
      exact ⟨rfl, HXk.out⟩
end Go.Proofs.YtbpkclopcoaikaaGreatDoor
