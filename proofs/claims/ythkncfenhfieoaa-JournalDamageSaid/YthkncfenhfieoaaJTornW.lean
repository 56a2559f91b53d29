/- The walk of the law JournalTorn. -/
import Derived.Test.YthkncfenhfieoaaJLaw2W
import Derived.Test.YthkncfenhfieoaaJTornM
namespace Go.Proofs.Ythkncfenhfieoaa
open Go.RowKit
set_option linter.unusedVariables false
set_option linter.unusedSimpArgs false
/-- What Scan answers: a property that lasts. -/
def ScanP (base at_ st : Nat) (y : List Rec) : Value → World → Prop := fun u w => ∃ v, u = .tuple #[v, .int .i64 (at_ : Int), .int .i64 (st : Int)] ∧ base ≤ w.heap.size ∧ w.ownsRow base 37 2 v y.length (y.flatMap recC)
def OwnP (base : Nat) (y : List Rec) : Value → World → Prop := fun v w => base ≤ w.heap.size ∧ w.ownsRow base 37 2 v y.length (y.flatMap recC)
theorem own2_below {w w' : World} {base n size : Nat} {e : TypeId} {v : Value} {xs : List Value} (h : w.ownsRow base e size v n xs) (hb : Below w.heap.size w w') : w'.ownsRow base e size v n xs :=
  h.kept (row := none) (below_grow hb) (by cases v.ownBlock <;> simp)
theorem own2_base {w : World} {base base' size n : Nat} {e : TypeId} {v : Value} {xs : List Value} (h : w.ownsRow base e size v n xs) (hb : base' ≤ base) : w.ownsRow base' e size v n xs :=
  ⟨h.1, h.2.imp id fun ⟨g, cap, cur, h1, h2, h3⟩ => ⟨g, cap, cur, h1, by omega, h3⟩⟩
theorem stab_scanP (base at_ st : Nat) (y : List Rec) : Stab (.p (ScanP base at_ st y)) := fun u w w' hb ⟨v, h1, h2, h3⟩ => ⟨v, h1, Nat.le_trans h2 hb.size, own2_below h3 hb⟩
theorem stab_ownP (base : Nat) (y : List Rec) : Stab (.p (OwnP base y)) := fun u w w' hb ⟨h2, h3⟩ => ⟨Nat.le_trans h2 hb.size, own2_below h3 hb⟩
theorem zeros_ext (z : Nat) (h : z ≤ 4) : (⟨#[0, 0, 0, 0]⟩ : ByteArray).extract 0 z = bstr (List.replicate z 0) := by
  rw [str_sub (show (⟨#[0, 0, 0, 0]⟩ : ByteArray) = bstr (List.replicate 4 0) from rfl), List.drop_zero, List.take_replicate, Nat.min_eq_left h]
theorem IsRecs.take {w : World} {a : Option Addr} {n : Nat} {l : List Rec} (h : IsRecs w a n l) (k : Nat) (hk : k ≤ n) : IsRecs w a k (l.take k) := by
  obtain ⟨h1, h2⟩ := h
  refine ⟨by simp; omega, ?_⟩
  have h3 := h2.take (k * 2)
  have e : ∀ (l : List Rec) k, (l.flatMap recC).take (k * 2) = (l.take k).flatMap recC := by
    intro l
    induction l with
    | nil => intro k; simp
    | cons q l ih =>
      intro k
      rcases k with _ | k
      · simp
      · rw [List.flatMap_cons, List.take_succ_cons, List.flatMap_cons, List.take_append, show (recC q).length = 2 from rfl, show (k + 1) * 2 - 2 = k * 2 by omega, ih k, List.take_of_length_le (by show 2 ≤ _; omega)]
  rwa [e] at h3
namespace journalTorn
set_option maxHeartbeats 2000000 in
set_option maxRecDepth 100000 in
theorem walk (a : Option Addr) (len cap : Nat) (z : List Int) (cut zeros : Int) (w : World) (w0 : IsRow .i64 w a len cap z) (hcut : (Lit.int .i64 cut).wf = true) (hzer : (Lit.int .i64 zeros).wf = true) :
    Calls Try.prog 4 #[.slice a len cap, .int .i64 cut, .int .i64 zeros] w fun e w' => e = .returned (.bool true) ∧ Below w.heap.size w w' := by
  obtain ⟨zs, hl, hr, hc, hm, _, _⟩ := w0.ints
  have HL := hide hl.symm
  have HR := hide hr
  clear hl hr w0 hcut hzer
  go_enter Try.func4, Try.ntmps4
  go_wp2_with fail
  refine (tnew_any a len cap zs w HL.out hc hm HR.out).mono ?_
  rintro e w1 ⟨rfl, ht1, hb1⟩
  go_wp2_with fail
  refine (lrec_any w.heap.size 6 6 w1 rfl (by decide) ht1).mono ?_
  rintro e w2 ⟨v, l, rfl, hown, hsm, hll, hg⟩
  have hb2 : Below w.heap.size w w2 := bl_grown hb1 hg (fun k h => by cases h; exact Nat.le_refl _)
  obtain ⟨a2, c2, rfl, hc2, hrec⟩ := own_recs hown rfl
  have HREC := hide hrec
  have HSM := hide hsm
  obtain ⟨T, hT⟩ : ∃ T, T = bstr (encL l) := ⟨_, rfl⟩
  have HT := hide hT
  obtain ⟨tl, htl⟩ : ∃ tl, tl = (encL l).length := ⟨_, rfl⟩
  have hTn : T.size = tl := by rw [htl]; exact str_size hT
  have htlb : tl ≤ 96 := by rw [htl]; have := small_len hsm; omega
  have HTL := hide htl
  obtain ⟨xl, hxl⟩ : ∃ xl, xl = l.length := ⟨_, rfl⟩
  rw [← hxl] at hll hc2 ⊢
  have HXL := hide hxl
  clear ht1 hown hg hrec hsm hT htl hb1 hxl
  go_wp2_with fail
  refine (rea_any a2 xl c2 l w2 (by rw [HXL.out]; exact HREC.out) (small_p HSM.out) (by omega)).mono ?_
  rintro e w3 ⟨rfl, hb3⟩
  rw [all_small HSM.out, ← HT.out]
  have HREC3 := hide (HREC.out.below hb3)
  have hb03 := bl_trans hb2 hb3
  clear hb2 hb3 HREC
  go_wp2_with fail
  refine (mod_any cut ((tl : Int) + 1) w3 (by omega)).mono ?_
  rintro e w' ⟨rfl, rfl⟩
  have hmr := modZ_range cut ((tl : Int) + 1) (by omega)
  obtain ⟨n, hn⟩ := Int.eq_ofNat_of_zero_le hmr.1
  rw [hn] at hmr ⊢
  have hntl : n ≤ tl := by omega
  clear hmr hn
  go_wp2_with fail
  all_goals
    refine (mod_any zeros _ w3 (by omega)).mono ?_
    rintro e w' ⟨rfl, rfl⟩
    obtain ⟨zz, hzz, hzn, hz4⟩ : ∃ zz : Nat, modZ zeros (min (n : Int) 4 + 1) = (zz : Int) ∧ zz ≤ n ∧ zz ≤ 4 := by
      have h := modZ_range zeros (min (n : Int) 4 + 1) (by omega)
      exact ⟨(modZ zeros (min (n : Int) 4 + 1)).toNat, by omega, by omega, by omega⟩
    first
      | rw [show (5 : Int) = min (n : Int) 4 + 1 by omega]
      | rw [show ((n : Int) + 1) = min (n : Int) 4 + 1 by omega]
    rw [hzz]
    clear hzz
    obtain ⟨cc, hcc⟩ : ∃ cc, cc = n - zz := ⟨_, rfl⟩
    have ecc : (n : Int) - (zz : Int) = (cc : Int) := by omega
    have ewc : IntKind.i64.wrap (cc : Int) = (cc : Int) := by rw [IntKind.wrap_i64]; omega
    have hcT : (cc : Int) ≤ (tl : Int) := by omega
    have hz4' : (zz : Int) ≤ 4 := by omega
    obtain ⟨X1, hX1⟩ : ∃ X1, X1 = T.extract 0 cc := ⟨_, rfl⟩
    have hX1' := hX1.symm
    have hX1s : X1 = bstr ((encL l).take cc) := by rw [hX1, str_sub HT.out, List.drop_zero]
    obtain ⟨X2, hX2⟩ : ∃ X2, X2 = (⟨#[0, 0, 0, 0]⟩ : ByteArray).extract 0 zz := ⟨_, rfl⟩
    have hX2' := hX2.symm
    have hX2s : X2 = bstr (List.replicate zz 0) := by rw [hX2, zeros_ext zz hz4]
    obtain ⟨s', hs'⟩ : ∃ s', s' = (encL l).take cc ++ List.replicate zz (0 : UInt8) := ⟨_, rfl⟩
    have hs'l : s'.length = n := by rw [hs', List.length_append, List.length_take, List.length_replicate, ← HTL.out]; omega
    obtain ⟨y, rest, hsc⟩ := exists_scan 100 s' (by omega)
    have hlaw := torn_law l n zz y rest (fun r hr => small_ok (HSM.out r hr)) (by rw [← HTL.out]; exact hntl) hzn hz4 (by rw [← hcc, ← hs']; exact hsc)
    rw [← hcc] at hlaw
    obtain ⟨hpre, hst2, hnext⟩ := hlaw
    have add1 := fun (w : World) => add_str (P := Try.prog) hX1s hX2s (by rw [List.length_take, List.length_replicate, ← HTL.out]; omega) w
    rw [← hs'] at add1
    obtain ⟨SS, hSS⟩ : ∃ SS, SS = bstr s' := ⟨_, rfl⟩
    rw [← hSS] at add1
    have HSS := hide hSS
    have HSC := hide hsc
    have HSL := hide hs'l
    have HPRE := hide hpre
    have HNX := hide hnext
    have HCC := hide hcc
    obtain ⟨at_, hat⟩ : ∃ at_, at_ = (encL y).length := ⟨_, rfl⟩
    have hatn : at_ ≤ n := by
      have := congrArg List.length hsc.eq
      rw [List.length_append, ← hat, hs'l] at this; omega
    obtain ⟨st, hst⟩ : ∃ st, st = stateM rest := ⟨_, rfl⟩
    rw [← hst] at hst2
    have hyl : y.length ≤ xl := by rw [HXL.out]; exact hpre.length_le
    have HAT := hide hat
    have HST := hide hst
    clear hX1 hX2 hX1s hX2s hs' hs'l hsc hpre hnext hSS hat hst hcc
    go_wp2_with fail
    refine wp_region_K 16 (by kernel_rfl) (by kernel_rfl) (fun Q HQ => ?_)
    simp only [List.take_succ_cons, List.take_zero, List.map_cons, List.map_nil]
    repeat
      first | apply wpS_c rfl | apply wpS_gc rfl (guard_mk rfl rfl)
      focus
        intro ev wx hC hx
        (try simp [Op.operands, Call.operands, opndS, Slot.holds] at hx)
        go_simp
        try (first | exact rfl | exact ⟨Below.refl _ _, rfl⟩)
        done
      dsimp only [setS, List.set]
    refine wpS_p (R := ScanP w.heap.size at_ st y) rfl (stab_scanP _ _ _ _) ?_ ?_
    focus
      intro ev wx hC hx
      (try simp [Op.operands, Call.operands, opndS, Slot.holds] at hx)
      go_simp
      refine (scan_any SS s' y rest wx HSS.out (by rw [HSL.out]; omega) HSC.out).mono ?_
      rintro e w' ⟨v, rfl, hown, hb⟩
      rw [← HAT.out, ← HST.out]
      have hw0 : w.heap.size ≤ wx.heap.size := Nat.le_trans hb03.size hC.below.size
      exact ⟨_, rfl, hb, v, rfl, Nat.le_trans hw0 hb.size, own2_base hown hw0⟩
    dsimp only [setS, List.set]
    refine wpS_p rfl (stab_scanP w.heap.size at_ st y) (opS_move_p (.tmp 47) rfl _ rfl) ?_
    dsimp only [setS, List.set]
    refine wpS_p (R := OwnP w.heap.size y) rfl (stab_ownP _ _) ?_ ?_
    focus
      intro ev wx hC hx
      (try simp [Op.operands, Call.operands, opndS, Slot.holds] at hx)
      obtain ⟨v, hv, h1, h2⟩ := hx
      go_simp
      exact ⟨Below.refl _ _, h1, h2⟩
    dsimp only [setS, List.set]
    refine wpS_c (v := .int .i64 (at_ : Int)) rfl ?_ ?_
    focus
      intro ev wx hC hx
      (try simp [Op.operands, Call.operands, opndS, Slot.holds] at hx)
      obtain ⟨v, hv, h1, h2⟩ := hx
      go_simp
      exact Below.refl _ _
    dsimp only [setS, List.set]
    refine wpS_c (v := .int .i64 (st : Int)) rfl ?_ ?_
    focus
      intro ev wx hC hx
      (try simp [Op.operands, Call.operands, opndS, Slot.holds] at hx)
      obtain ⟨v, hv, h1, h2⟩ := hx
      go_simp
      exact Below.refl _ _
    dsimp only [setS, List.set]
    refine wpS_p rfl (stab_ownP w.heap.size y) (opS_assign_p (.tmp 48) rfl _ rfl) ?_
    dsimp only [setS, List.set]
    repeat
      first | apply wpS_c rfl | apply wpS_gc rfl (guard_mk rfl rfl)
      focus
        intro ev wx hC hx
        (try simp [Op.operands, Call.operands, opndS, Slot.holds] at hx)
        go_simp
        try (first | exact rfl | exact ⟨Below.refl _ _, rfl⟩)
        done
      dsimp only [setS, List.set]
    refine wpS_nil (HQ _ fun w4 hC4 => ?_)
    simp only [closeS, List.drop_succ_cons, List.drop_zero, List.drop_nil]
    clear HQ add1
    rintro v12 ⟨_, hown4⟩ v38 - v47 - v48 -
    have hb34 := hC4.below
    have hb04 := bl_trans hb03 hb34
    obtain ⟨a4, c4, rfl, hc4, hrec4⟩ := own_recs hown4 rfl
    obtain ⟨yl, hyle⟩ : ∃ yl, yl = y.length := ⟨_, rfl⟩
    rw [← hyle] at hyl hc4 ⊢
    have hycond : ¬ (xl : Int) < (yl : Int) := by omega
    have hst2' : ((st : Int) == 2) = false := by rw [beq_eq_false_iff_ne]; omega
    have hatc : ¬ (n : Int) < (at_ : Int) := by omega
    have HY := hide hrec4
    have HX4 := hide (HREC3.out.below hb34)
    have HYL := hide hyle
    clear hown4 hrec4 hyle hC4 hb34
    go_wp2_with fail
    go_loopw [67] (fun i wr => ∃ k : Nat, i = .int .i64 (k : Int) ∧ k ≤ yl ∧ Below w4.heap.size w4 wr) (fun i _ => yl - (intOf i).toNat)
    case atStart => exact ⟨0, rfl, Nat.zero_le _, bl_refl w4⟩
    case round =>
      obtain ⟨k, rfl, hk, hb⟩ := hrel
      by_cases hlt : k < yl
      · obtain ⟨b1, o1, ⟨k1, p1⟩, rfl, hl1, hg1, e0, e1⟩ := (HY.out.below hb).at_ (show k < y.length by rw [← HYL.out]; exact hlt)
        obtain ⟨b2, o2, ⟨k2, p2⟩, rfl, hl2, hg2, e2, e3⟩ := (HX4.out.below hb).at_ (show k < l.length by rw [← HXL.out]; omega)
        have hgg : l[k]? = y[k]? := by
          obtain ⟨t, ht⟩ := HPRE.out
          rw [← ht, List.getElem?_append_left (by rw [← HYL.out]; exact hlt)]
        rw [hgg, hg1] at hg2
        injection hg2 with hg2
        injection hg2 with q1 q2
        subst q1 q2
        simp only [] at e0 e1 e2 e3
        obtain ⟨SP, hSP⟩ : ∃ SP, SP = bstr p1 := ⟨_, rfl⟩
        rw [← hSP] at e1 e3
        clear hg1 hSP hgg
        have hkn : (k : Int) < (yl : Int) := by omega
        have hkx : (k : Int) < (xl : Int) := by omega
        go_wp2_with fail
        have f0 : ∀ wx, CB wr.drew wx → wx.cell? ⟨b1, o1 + k * 2, none⟩ = some (.int .i64 k1) := fun wx h => h.cell e0
        have f1 : ∀ wx, CB wr.drew wx → wx.cell? ⟨b1, o1 + k * 2 + 1, none⟩ = some (.string SP) := fun wx h => h.cell e1
        have f2 : ∀ wx, CB wr.drew wx → wx.cell? ⟨b2, o2 + k * 2, none⟩ = some (.int .i64 k1) := fun wx h => h.cell e2
        have f3 : ∀ wx, CB wr.drew wx → wx.cell? ⟨b2, o2 + k * 2 + 1, none⟩ = some (.string SP) := fun wx h => h.cell e3
        refine wp_region_K 8 (by kernel_rfl) (by kernel_rfl) (fun Q HQ => ?_)
        simp only [List.take_succ_cons, List.take_zero, List.map_cons, List.map_nil]
        repeat
          first | apply wpS_c rfl | apply wpS_gc rfl (guard_mk rfl rfl)
          focus
            intro ev wx hC hx
            (try simp [Op.operands, Call.operands, opndS, Slot.holds] at hx)
            go_simp
            try (first | exact rfl | exact ⟨Below.refl _ _, rfl⟩)
            done
          dsimp only [setS, List.set]
        refine wpS_nil (HQ _ fun w5 hC5 => ?_)
        simp only [closeS, List.drop_succ_cons, List.drop_zero, List.drop_nil]
        clear HQ f0 f1 f2 f3
        have hb5 : Below w4.heap.size w4 w5 := hb.trans (hC5.below.mono hb.size)
        go_wp2
        go_roundw
        case rel => exact ⟨k + 1, by go_num, by omega, hb5⟩
        case measure => simp [intOf]; omega
      · obtain rfl : k = yl := by omega
        have hytake : l.take k = y := by
          obtain ⟨t, ht⟩ := HPRE.out
          rw [← ht, HYL.out, List.take_left']
          rfl
        have hysm : ∀ r ∈ y, small r := fun r hr => HSM.out r (by obtain ⟨t, ht⟩ := HPRE.out; rw [← ht]; simp [hr])
        have HYT := hide hytake
        have HYS := hide hysm
        have hkc : (k : Int) ≤ (c2 : Int) := by omega
        obtain ⟨T2, hT2⟩ : ∃ T2, T2 = bstr (encL y) := ⟨_, rfl⟩
        have hT2s : T2.size = at_ := by rw [HAT.out]; exact str_size hT2
        have HT2 := hide hT2
        have HXR := hide (HX4.out.below hb)
        have hb0r := bl_trans hb04 hb
        clear hytake hysm hT2 hlt hb hb04 hk
        go_wp2_with fail
        refine (rea_any a2 k c2 y wr (by have := HXR.out.take k (by rw [← HXL.out]; exact hyl); rwa [HYT.out] at this) (small_p HYS.out) (by omega)).mono ?_
        rintro e w5 ⟨rfl, hb5⟩
        rw [all_small HYS.out, ← HT2.out]
        have hb05 := bl_trans hb0r hb5
        have HXR5 := hide (HXR.out.below hb5)
        clear hb0r hb5
        by_cases hkx : k < xl
        · have hkx' : (k : Int) < (xl : Int) := by omega
          have hkc1 : (k : Int) + 1 ≤ (c2 : Int) := by omega
          have hn3 := HNX.out (by rw [← HYL.out, ← HXL.out]; exact hkx)
          rw [← HYL.out] at hn3
          obtain ⟨L3, hL3⟩ : ∃ L3, L3 = (encL (l.take (k + 1))).length := ⟨_, rfl⟩
          rw [← hL3] at hn3
          have hn3' : (cc : Int) < (L3 : Int) := by omega
          have hsm3 : ∀ r ∈ l.take (k + 1), small r := fun r hr => HSM.out r (List.mem_of_mem_take hr)
          obtain ⟨T3, hT3⟩ : ∃ T3, T3 = bstr (encL (l.take (k + 1))) := ⟨_, rfl⟩
          have hT3s : T3.size = L3 := by rw [hL3]; exact str_size hT3
          have HT3 := hide hT3
          have HSM3 := hide hsm3
          clear hL3 hT3 hsm3 hn3 hkx
          go_wp2_with fail
          refine (rea_any a2 (k + 1) c2 (l.take (k + 1)) w5 (HXR5.out.take (k + 1) (by rw [← HXL.out]; omega)) (small_p HSM3.out) (by omega)).mono ?_
          rintro e w6 ⟨rfl, hb6⟩
          rw [all_small HSM3.out, ← HT3.out]
          have hb06 := bl_trans hb05 hb6
          clear hb05 hb6
          go_wp2_with fail
          refine (known_any _).mono ?_
          rintro e w7 ⟨rfl, hb7⟩
          go_wp2
          go_ret
          exact ⟨rfl, bl_trans hb06 hb7⟩
        · have hkx' : ¬ (k : Int) < (xl : Int) := by omega
          clear hkx
          go_wp2_with fail
          refine (known_any _).mono ?_
          rintro e w7 ⟨rfl, hb7⟩
          go_wp2
          go_ret
          exact ⟨rfl, bl_trans hb05 hb7⟩
end journalTorn
end Go.Proofs.Ythkncfenhfieoaa
