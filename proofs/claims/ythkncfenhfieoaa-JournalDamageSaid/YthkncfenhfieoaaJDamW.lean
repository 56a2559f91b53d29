/- The walk of the law JournalDamage. -/
import Derived.Test.YthkncfenhfieoaaJTornW
namespace Go.Proofs.Ythkncfenhfieoaa
open Go.RowKit
set_option linter.unusedVariables false
set_option linter.unusedSimpArgs false
theorem brd_set {w : World} {g k : Nat} {l : List UInt8} (h : BRd w (some ⟨g, 0, none⟩) l) (hk : k < l.length) (c : UInt8) : BRd (w.setCell ⟨g, k, none⟩ (.int .u8 (c.toNat : Int))) (some ⟨g, 0, none⟩) (l.set k c) := by
  obtain ⟨b, o, he, hb, hc⟩ := Rd.open_ h (by simp; omega)
  injection he with he
  injection he with q1 q2
  subst q1 q2
  refine .inr ⟨g, 0, rfl, by simpa using hb, fun j v hv => ?_⟩
  rw [Nat.zero_add]
  by_cases e : j = k
  · subst e
    rw [List.getElem?_map, List.getElem?_set_self hk] at hv
    injection hv with hv
    subst hv
    have hcj := hc j (u8v l[j]) (by simp [hk])
    rw [Nat.zero_add] at hcj
    exact World.cell?_setCell_same' _ _ _ (by rw [hcj]; rfl)
  · rw [List.getElem?_map, List.getElem?_set_ne (fun h => e h.symm), ← List.getElem?_map] at hv
    have hcj := hc j v hv
    rw [Nat.zero_add] at hcj
    rw [World.cell?_setCell_other _ _ _ _ (by intro h; injection h with h1 h2 h3; exact e h2.symm)]
    exact hcj
namespace journalDamage
set_option maxHeartbeats 2000000 in
set_option maxRecDepth 100000 in
theorem walk (a : Option Addr) (len cap : Nat) (z : List Int) (at_ cz : Int) (w : World) (w0 : IsRow .i64 w a len cap z) (hat : (Lit.int .i64 at_).wf = true) (hcz : (Lit.int .u8 cz).wf = true) :
    Calls Try.prog 5 #[.slice a len cap, .int .i64 at_, .int .u8 cz] w fun e w' => e = .returned (.bool true) ∧ Below w.heap.size w w' := by
  obtain ⟨zs, hl, hr, hc, hm, _, _⟩ := w0.ints
  have HL := hide hl.symm
  have HR := hide hr
  have hcb := bounds_u8 hcz
  obtain ⟨c, rfl⟩ : ∃ c : UInt8, cz = (c.toNat : Int) := ⟨UInt8.ofNat cz.toNat, by simp [UInt8.toNat_ofNat']; omega⟩
  clear hl hr w0 hat hcz hcb
  go_enter Try.func5, Try.ntmps5
  go_wp2_with fail
  refine (tnew_any a len cap zs w HL.out hc hm HR.out).mono ?_
  rintro e w1 ⟨rfl, ht1, hb1⟩
  go_wp2_with fail
  refine (lrec_any w.heap.size 5 5 w1 rfl (by decide) ht1).mono ?_
  rintro e w2 ⟨v, l, rfl, hown, hsm, hll, hg⟩
  have hb2 : Below w.heap.size w w2 := bl_grown hb1 hg (fun k h => by cases h; exact Nat.le_refl _)
  obtain ⟨a2, c2, rfl, hc2, hrec⟩ := own_recs hown rfl
  have HREC := hide hrec
  have HSM := hide hsm
  obtain ⟨T, hT⟩ : ∃ T, T = bstr (encL l) := ⟨_, rfl⟩
  have HT := hide hT
  obtain ⟨tl, htl⟩ : ∃ tl, tl = (encL l).length := ⟨_, rfl⟩
  have hTn : T.size = tl := by rw [htl]; exact str_size hT
  have htlb : tl ≤ 96 := by rw [htl]; have := small_len hsm; omega
  have HTL := hide htl
  obtain ⟨xl, hxl⟩ : ∃ xl, xl = l.length := ⟨_, rfl⟩
  rw [← hxl] at hll hc2 ⊢
  have HXL := hide hxl
  clear ht1 hown hg hrec hsm hT htl hb1 hxl
  go_wp2_with fail
  refine (rea_any a2 xl c2 l w2 (by rw [HXL.out]; exact HREC.out) (small_p HSM.out) (by omega)).mono ?_
  rintro e w3 ⟨rfl, hb3⟩
  rw [all_small HSM.out, ← HT.out]
  have HREC3 := hide (HREC.out.below hb3)
  have hb03 := bl_trans hb2 hb3
  clear hb2 hb3 HREC
  by_cases ht0 : tl = 0
  · have ht0' : (tl : Int) = 0 := by omega
    subst ht0
    go_wp2_with fail
    refine (known_any _).mono ?_
    rintro e w4 ⟨rfl, hb4⟩
    go_wp2
    go_ret
    exact ⟨rfl, bl_trans hb03 hb4⟩
  have ht1' : ((tl : Int) == 0) = false := by rw [beq_eq_false_iff_ne]; omega
  have k1 := run_bytes_of_string (P := Try.prog) w3 9 39 5 T Try.underlying9 Try.underlying39 Try.underlying5
  have hrd := rd_str (w := w3) HT.out (grownCap w3 T.size 0 5) 5 ((bytesRow T (grownCap w3 T.size 0 5)).size, (bytesRow T (grownCap w3 T.size 0 5)).size + 1)
  have hfr : ∀ j, j < tl → (w3.drew.alloc (.cells (bytesRow T (grownCap w3 T.size 0 5)) 5 ((bytesRow T (grownCap w3 T.size 0 5)).size, (bytesRow T (grownCap w3 T.size 0 5)).size + 1))).frozen? ⟨w3.heap.size, j, none⟩ = false := fun j hj => by
    have := World.frozen?_alloc_mark w3.drew (bytesRow T (grownCap w3 T.size 0 5)) 5 ((bytesRow T (grownCap w3 T.size 0 5)).size) ((bytesRow T (grownCap w3 T.size 0 5)).size + 1) j
    rw [show w3.drew.heap.size = w3.heap.size from rfl] at this
    rw [this]
    have hsz : T.size ≤ (bytesRow T (grownCap w3 T.size 0 5)).size := by
      unfold bytesRow
      rw [Array.size_append, Array.size_map]
      exact Nat.le_add_right _ _
    have : decide ((bytesRow T (grownCap w3 T.size 0 5)).size ≤ j) = false := by simp; omega
    rw [this]; rfl
  obtain ⟨cp, hcp⟩ : ∃ cp, cp = grownCap w3 T.size 0 5 := ⟨_, rfl⟩
  rw [← hcp] at k1 hrd hfr
  obtain ⟨w4, hw4⟩ : ∃ w4, w4 = w3.drew.alloc (.cells (bytesRow T cp) 5 ((bytesRow T cp).size, (bytesRow T cp).size + 1)) := ⟨_, rfl⟩
  rw [← hw4] at k1 hrd hfr
  have hb34 : Below w3.heap.size w3 w4 := by rw [hw4]; exact bl_alloc (bl_drew (bl_refl w3)) _
  have hlt4 : w3.heap.size < w4.heap.size := by rw [hw4]; simp
  have HRD := hide hrd
  have HFR := hide hfr
  obtain ⟨gb, hgb⟩ : ∃ gb, gb = w3.heap.size := ⟨_, rfl⟩
  have HREC4 := hide (HREC3.out.below hb34)
  have hb04 := bl_trans hb03 hb34
  have hgb0 : w.heap.size ≤ w3.heap.size := hb03.size
  have HB34 := hide hb34
  clear hcp hw4 hrd hfr hb34 hb03
  go_wp2_with fail
  refine (mod_any at_ (tl : Int) w4 (by omega)).mono ?_
  rintro e w' ⟨rfl, rfl⟩
  have hmr := modZ_range at_ (tl : Int) (by omega)
  obtain ⟨k, hk⟩ := Int.eq_ofNat_of_zero_le hmr.1
  rw [hk] at hmr ⊢
  have hktl : k < tl := by omega
  have hkt' : (k : Int) < (tl : Int) := by omega
  clear hmr hk k1
  obtain ⟨o, ho⟩ : ∃ o, (encL l)[k]? = some o := ⟨(encL l)[k]'(by rw [← HTL.out]; exact hktl), List.getElem?_eq_getElem _⟩
  have HO := hide ho
  have hok : w4.cell? ⟨w3.heap.size, k, none⟩ = some (.int .u8 (o.toNat : Int)) := by
    obtain ⟨b1, o1, he, _, hc1⟩ := Rd.at_ (k := k) (v := u8v o) HRD.out (by simp [ho])
    injection he with he
    injection he with q1 q2
    subst q1 q2
    rw [Nat.zero_add] at hc1
    exact hc1
  have HOK := hide hok
  clear ho hok
  go_wp2_with fail
  go_loopw [12, 39] (fun fr i wr => ∃ (j f : Nat), i = .int .i64 (j : Int) ∧ fr = .int .i64 (f : Int) ∧ j ≤ xl ∧ f ≤ tl ∧ Hid (f = (encL (l.take j)).length) ∧ Hid (∀ j', j' < j → ¬ ((encL (l.take j')).length ≤ k ∧ k < (encL (l.take j')).length + 4)) ∧ Hid (0 < j → c ≠ o) ∧ Below w4.heap.size w4 wr) (fun _ i _ => xl - (intOf i).toNat)
  case atStart => exact ⟨0, 0, rfl, rfl, Nat.zero_le _, Nat.zero_le _, hide rfl, hide (fun j h => by omega), hide (fun h => by omega), bl_refl w4⟩
  case round =>
    obtain ⟨j, f, rfl, rfl, hj, hft, HF, HNJ, HCO, hb⟩ := hrel
    by_cases hlt : j < xl
    · obtain ⟨b1, o1, ⟨k1, p1⟩, rfl, hl1, hg1, e0, e1⟩ := (HREC4.out.below hb).at_ (show j < l.length by rw [← HXL.out]; exact hlt)
      simp only [] at e0 e1
      have HG1 := hide hg1
      obtain ⟨SP, hSP⟩ : ∃ SP, SP = bstr p1 := ⟨_, rfl⟩
      rw [← hSP] at e1
      obtain ⟨pl, hpl⟩ : ∃ pl, pl = p1.length := ⟨_, rfl⟩
      have hSPs : SP.size = pl := by rw [hpl]; exact str_size hSP
      have hf2 : f + (9 + pl) = (encL (l.take (j + 1))).length := by
        rw [take_snoc l j _ hg1, encL_snoc, List.length_append, encR_length, ← HF.out, hpl]
      have hf2t : f + (9 + pl) ≤ tl := by
        rw [hf2, HTL.out]
        have e : encL l = encL (l.take (j + 1)) ++ encL (l.drop (j + 1)) := by rw [← encL_app, List.take_append_drop]
        have h5 := congrArg List.length e
        rw [List.length_append] at h5
        omega
      have HF2 := hide hf2
      have hcr : wr.cell? ⟨w3.heap.size, k, none⟩ = some (.int .u8 (o.toNat : Int)) := (hb.cell hlt4).trans HOK.out
      have hcra : ∀ ob, (wr.alloc ob).cell? ⟨w3.heap.size, k, none⟩ = some (.int .u8 (o.toNat : Int)) := fun ob => ((bl_alloc (bl_refl wr) ob).cell (lt_heap hcr)).trans hcr
      have hjx : (j : Int) < (xl : Int) := by omega
      clear hg1 hSP hpl hf2
      have fin : ∀ wz, Below wr.heap.size wr wz → Calls Try.prog 17 #[] wz fun e w' => e = .returned (.bool true) ∧ Below w.heap.size w w' := fun wz hz => (known_any wz).mono fun e w' ⟨h1, h2⟩ => ⟨h1, bl_trans hb04 (bl_trans hb (bl_trans hz h2))⟩
      by_cases hA : f ≤ k ∧ k < f + 4
      · have hA1 : (f : Int) ≤ (k : Int) := by omega
        have hA2 : (k : Int) < (f : Int) + 4 := by omega
        clear hA
        go_wp2_with fail
        refine (fin _ (bl_alloc (bl_refl wr) _)).mono ?_
        rintro e w5 ⟨rfl, hb5⟩
        go_wp2
        go_ret
        exact ⟨rfl, hb5⟩
      · by_cases hoc : o = c
        · subst hoc
          by_cases hA1 : f ≤ k
          · have hA1' : (f : Int) ≤ (k : Int) := by omega
            have hA2 : ¬ (k : Int) < (f : Int) + 4 := by omega
            clear hA hA1
            go_wp2_with fail
            refine (fin _ (bl_alloc (bl_refl wr) _)).mono ?_
            rintro e w5 ⟨rfl, hb5⟩
            go_wp2
            go_ret
            exact ⟨rfl, hb5⟩
          · have hA1' : ¬ (f : Int) ≤ (k : Int) := by omega
            clear hA hA1
            go_wp2_with fail
            refine (fin _ (bl_alloc (bl_refl wr) _)).mono ?_
            rintro e w5 ⟨rfl, hb5⟩
            go_wp2
            go_ret
            exact ⟨rfl, hb5⟩
        · have hoc' : ((o.toNat : Int) == (c.toNat : Int)) = false := by rw [beq_eq_false_iff_ne]; intro h; exact hoc (UInt8.toNat_inj.1 (by omega))
          have HOC := hide hoc
          have HA := hide hA
          clear fin hoc
          by_cases hA1 : f ≤ k
          · have hA1' : (f : Int) ≤ (k : Int) := by omega
            have hA2 : ¬ (k : Int) < (f : Int) + 4 := by omega
            clear hA hA1
            go_wp2
            go_roundw
            case rel =>
              refine ⟨j + 1, f + (9 + pl), by go_num, by go_num, by omega, hf2t, HF2, hide fun j' hj' => ?_, hide fun _ h => HOC.out h.symm, hb.trans ((bl_alloc (bl_refl wr) _).mono hb.size)⟩
              rcases Nat.lt_or_ge j' j with h | h
              · exact HNJ.out j' h
              · obtain rfl : j' = j := by omega
                rw [← HF.out]; exact HA.out
            case measure => simp [intOf]; omega
          · have hA1' : ¬ (f : Int) ≤ (k : Int) := by omega
            clear hA hA1
            go_wp2
            go_roundw
            case rel =>
              refine ⟨j + 1, f + (9 + pl), by go_num, by go_num, by omega, hf2t, HF2, hide fun j' hj' => ?_, hide fun _ h => HOC.out h.symm, hb.trans ((bl_alloc (bl_refl wr) _).mono hb.size)⟩
              rcases Nat.lt_or_ge j' j with h | h
              · exact HNJ.out j' h
              · obtain rfl : j' = j := by omega
                rw [← HF.out]; exact HA.out
            case measure => simp [intOf]; omega
    · obtain rfl : j = xl := by omega
      have hj0 : 0 < j := by
        rcases Nat.eq_zero_or_pos j with h | h
        · have h1 : l = [] := List.eq_nil_of_length_eq_zero (by rw [← HXL.out]; exact h)
          have h2 := HTL.out
          rw [h1] at h2
          simp [encL] at h2
          omega
        · exact h
      have hne : c ≠ o := HCO.out hj0
      obtain ⟨s', hs'⟩ : ∃ s', s' = (encL l).set k c := ⟨_, rfl⟩
      have hs'l : s'.length = tl := by rw [hs', List.length_set, ← HTL.out]
      obtain ⟨y, rest, hsc⟩ := exists_scan 100 s' (by omega)
      obtain ⟨hpre, hend⟩ := damage_law l k c o y rest (fun r hr => small_ok (HSM.out r hr)) HO.out hne (fun j' hj' => HNJ.out j' (by rw [HXL.out]; exact hj')) (by rw [← hs']; exact hsc)
      have hcr : wr.cell? ⟨w3.heap.size, k, none⟩ = some (.int .u8 (o.toNat : Int)) := (hb.cell hlt4).trans HOK.out
      have hfz : wr.frozen? ⟨w3.heap.size, k, none⟩ = false := (hb.frozen (p := ⟨w3.heap.size, k, none⟩) hlt4).trans (HFR.out k hktl)
      obtain ⟨w5, hw5⟩ : ∃ w5, w5 = wr.setCell ⟨w3.heap.size, k, none⟩ (.int .u8 (c.toNat : Int)) := ⟨_, rfl⟩
      have hrd5 : BRd w5 (some ⟨w3.heap.size, 0, none⟩) s' := by
        rw [hw5, hs']
        exact brd_set (HRD.out.below hb) (by rw [← HTL.out]; exact hktl) c
      have k2 := run_bytes_str (P := Try.prog) w5 39 9 5 (some ⟨w3.heap.size, 0, none⟩) tl cp s' Try.underlying39 Try.underlying5 Try.underlying9 hs'l.symm hrd5
      obtain ⟨SS, hSS⟩ : ∃ SS, SS = bstr s' := ⟨_, rfl⟩
      rw [← hSS] at k2
      have hb05 : Below w.heap.size w w5 := by rw [hw5]; exact bl_set (p := ⟨w3.heap.size, k, none⟩) (bl_trans hb04 hb) hgb0 _
      have hb35 : Below w3.heap.size w3 w5 := by rw [hw5]; exact bl_set (p := ⟨w3.heap.size, k, none⟩) (HB34.out.trans (hb.mono HB34.out.size)) (Nat.le_refl _) _
      have HX5 := hide (HREC3.out.below hb35)
      have HSS := hide hSS
      have HSC := hide hsc
      have HSL := hide hs'l
      have HPRE := hide hpre
      obtain ⟨ed, hed⟩ : ∃ ed, ed = (encL y).length := ⟨_, rfl⟩
      rw [← hed] at hend
      have hend' : ¬ (k : Int) < (ed : Int) := by omega
      have HED := hide hed
      have hyl : y.length ≤ j := by rw [HXL.out]; exact hpre.length_le
      rw [hw5] at k2
      clear hs' hs'l hsc hpre hrd5 hSS hed hne hj0 hb35
      go_wp2_with fail
      rw [← hw5]
      clear hw5 k2 hcr hfz
      refine (scan_any SS s' y rest w5 HSS.out (by rw [HSL.out]; omega) HSC.out).mono ?_
      rintro e w6 ⟨v6, rfl, hown6, hb6⟩
      rw [← HED.out]
      obtain ⟨a4, c4, rfl, hc4, hrec6⟩ := own_recs hown6 rfl
      obtain ⟨yl, hyle⟩ : ∃ yl, yl = y.length := ⟨_, rfl⟩
      rw [← hyle] at hyl hc4 ⊢
      have hycond : ¬ (j : Int) < (yl : Int) := by omega
      have HY := hide hrec6
      have HX6 := hide (HX5.out.below hb6)
      have HYL := hide hyle
      have hb06 := bl_trans hb05 hb6
      have hz' : ∃ zz : Nat, zz = stateM rest := ⟨_, rfl⟩
      obtain ⟨zz, hzz⟩ := hz'
      rw [← hzz]
      clear hown6 hrec6 hyle hb6 hb05 hzz
      go_wp2_with fail
      go_loopw [91] (fun i wr => ∃ k : Nat, i = .int .i64 (k : Int) ∧ k ≤ yl ∧ Below w6.heap.size w6 wr) (fun i _ => yl - (intOf i).toNat)
      case atStart => exact ⟨0, rfl, Nat.zero_le _, bl_refl w6⟩
      case round =>
        obtain ⟨q, rfl, hq, hbq⟩ := hrel
        by_cases hlq : q < yl
        · obtain ⟨b1, o1, ⟨k1, p1⟩, rfl, hl1, hg1, e0, e1⟩ := (HY.out.below hbq).at_ (show q < y.length by rw [← HYL.out]; exact hlq)
          obtain ⟨b2, o2, ⟨k2, p2⟩, rfl, hl2, hg2, e2, e3⟩ := (HX6.out.below hbq).at_ (show q < l.length by rw [← HXL.out]; omega)
          have hgg : l[q]? = y[q]? := by
            obtain ⟨t, ht⟩ := HPRE.out
            rw [← ht, List.getElem?_append_left (by rw [← HYL.out]; exact hlq)]
          rw [hgg, hg1] at hg2
          injection hg2 with hg2
          injection hg2 with q1 q2
          subst q1 q2
          simp only [] at e0 e1 e2 e3
          obtain ⟨SP, hSP⟩ : ∃ SP, SP = bstr p1 := ⟨_, rfl⟩
          rw [← hSP] at e1 e3
          clear hg1 hSP hgg
          have hkn : (q : Int) < (yl : Int) := by omega
          have hkx : (q : Int) < (j : Int) := by omega
          go_wp2_with fail
          have f0 : ∀ wx, CB wr.drew wx → wx.cell? ⟨b1, o1 + q * 2, none⟩ = some (.int .i64 k1) := fun wx h => h.cell e0
          have f1 : ∀ wx, CB wr.drew wx → wx.cell? ⟨b1, o1 + q * 2 + 1, none⟩ = some (.string SP) := fun wx h => h.cell e1
          have f2 : ∀ wx, CB wr.drew wx → wx.cell? ⟨b2, o2 + q * 2, none⟩ = some (.int .i64 k1) := fun wx h => h.cell e2
          have f3 : ∀ wx, CB wr.drew wx → wx.cell? ⟨b2, o2 + q * 2 + 1, none⟩ = some (.string SP) := fun wx h => h.cell e3
          refine wp_region_K 8 (by kernel_rfl) (by kernel_rfl) (fun Q HQ => ?_)
          simp only [List.take_succ_cons, List.take_zero, List.map_cons, List.map_nil]
          repeat
            first | apply wpS_c rfl | apply wpS_gc rfl (guard_mk rfl rfl)
            focus
              intro ev wx hC hx
              (try simp [Op.operands, Call.operands, opndS, Slot.holds] at hx)
              go_simp
              try (first | exact rfl | exact ⟨Below.refl _ _, rfl⟩)
              done
            dsimp only [setS, List.set]
          refine wpS_nil (HQ _ fun w7 hC7 => ?_)
          simp only [closeS, List.drop_succ_cons, List.drop_zero, List.drop_nil]
          clear HQ f0 f1 f2 f3
          have hb7 : Below w6.heap.size w6 w7 := hbq.trans (hC7.below.mono hbq.size)
          go_wp2
          go_roundw
          case rel => exact ⟨q + 1, by go_num, by omega, hb7⟩
          case measure => simp [intOf]; omega
        · obtain rfl : q = yl := by omega
          clear hlq
          go_wp2_with fail
          refine (known_any _).mono ?_
          rintro e w8 ⟨rfl, hb8⟩
          go_wp2
          go_ret
          exact ⟨rfl, bl_trans hb06 (bl_trans hbq hb8)⟩
end journalDamage
end Go.Proofs.Ythkncfenhfieoaa
