/- The walks of Get, of SameInts, and of the law BlockRoundTrips. -/
import Derived.Test.YtchcaidcohgjbaaKUnW
namespace Go.Proofs.Ytchcaidcohgjbaa
open Go.RowKit
set_option linter.unusedVariables false
set_option linter.unusedSimpArgs false
theorem own_isV {w : World} {base n : Nat} {e : TypeId} {v : Value} {l : List Nat} (h : w.ownsRow base e 1 v n (l.map nv)) : ∃ a c, v = .slice a n c ∧ n ≤ c ∧ IsV w a n l := by
  obtain ⟨h1, a, c, hv, hc, hr, _⟩ := own_form h
  exact ⟨a, c, hv, hc, by simpa using h1, hr⟩
def getM (o : Option (List Nat)) (i : Int) : Nat × Nat := match o with
  | none => (0, 9)
  | some vs => if i < 0 ∨ (vs.length : Int) ≤ i then (0, 8) else (vs.getD i.toNat 0, 0)
set_option maxRecDepth 100000 in
theorem get_any (a : Option Addr) (n c : Nat) (b : List UInt8) (i : Int) (w : World) (hn : n = b.length) (hnc : n ≤ c) (hm : n ≤ 10000) (hcn : a = none → c = 0) (hr : BRd w a b) :
    Calls Try.prog 21 #[.slice a n c, .int .i64 i] w fun e w' => e = .returned (.tuple #[.int .i64 (((getM (blkOf hlP b) i).1 : Nat) : Int), .int .i64 (((getM (blkOf hlP b) i).2 : Nat) : Int)]) ∧ Below w.heap.size w w' := by
  have HU := hide (unpack_any a n c b w hn hnc hm hcn hr)
  clear hn hnc hm hcn hr
  cases ho : blkOf hlP b with
  | none =>
    rw [ho] at HU
    go_enter Try.func21, Try.ntmps21
    go_wp2_with fail
    refine HU.out.mono ?_
    rintro e w1 ⟨rfl, hb1⟩
    go_wp2
    go_ret2
    exact ⟨rfl, hb1⟩
  | some vs =>
    rw [ho] at HU
    have hg : getM (some vs) i = if i < 0 ∨ (vs.length : Int) ≤ i then (0, 8) else (vs.getD i.toNat 0, 0) := rfl
    obtain ⟨N, hN⟩ : ∃ N, N = vs.length := ⟨_, rfl⟩
    rw [← hN] at hg
    have HG := hide hg
    have HN := hide hN
    clear hg hN
    go_enter Try.func21, Try.ntmps21
    go_wp2_with fail
    refine HU.out.mono ?_
    rintro e w1 ⟨⟨v, rfl, hown⟩, hb1⟩
    rw [← HN.out] at hown
    obtain ⟨A, cc, rfl, hcc, hv⟩ := own_isV hown
    have HV := hide hv
    have HB := hide hb1
    clear hown hv hb1
    by_cases h1 : i < 0
    · go_wp2
      go_ret2
      rw [HG.out, if_pos (.inl h1)]
      exact ⟨rfl, HB.out⟩
    by_cases h2 : (N : Int) ≤ i
    · go_wp2
      go_ret2
      rw [HG.out, if_pos (.inr h2)]
      exact ⟨rfl, HB.out⟩
    obtain ⟨k, rfl⟩ := Int.eq_ofNat_of_zero_le (show 0 ≤ i by omega)
    obtain ⟨b', o, x, rfl, hbl, hx, e0⟩ := HV.out.at_ (k := k) (by omega)
    have HX := hide (show vs.getD k 0 = x by simp [List.getD, hx])
    clear hx
    have h3 : (k : Int) < (N : Int) := by omega
    go_wp2
    go_ret2
    rw [HG.out, if_neg (by omega), Int.toNat_natCast, HX.out]
    exact ⟨rfl, HB.out⟩
set_option maxHeartbeats 1000000 in
set_option maxRecDepth 100000 in
theorem sameI_any (a b : Option Addr) (n m c d : Nat) (la lb : List Nat) (w : World) (ha : IsV w a n la) (hb : IsV w b m lb) (hn9 : n ≤ 1000000) :
    Calls Try.prog 20 #[.slice a n c, .slice b m d] w fun e w' => e = .returned (.bool (la == lb)) ∧ Below w.heap.size w w' := by
  have HA := hide ha
  have HB := hide hb
  clear ha hb
  by_cases hnm : n = m
  case neg =>
    have t1 : ((n : Int) != (m : Int)) = true := by rw [bne_iff_ne]; omega
    have hf : (la == lb) = false := by
      rw [beq_eq_false_iff_ne]
      intro h
      rw [h] at HA
      exact hnm (HA.out.1.trans HB.out.1.symm)
    rw [hf]
    clear hf hnm
    go_enter Try.func20, Try.ntmps20
    go_wp2
    go_ret
    exact ⟨rfl, bl_refl w⟩
  have t1 : ((n : Int) != (m : Int)) = false := by simp [hnm]
  have HNM := hide hnm
  clear hnm
  go_enter Try.func20, Try.ntmps20
  go_wp2_with fail
  go_loopw [13] (fun i wr => ∃ k : Nat, i = .int .i64 (k : Int) ∧ k ≤ n ∧ Hid (la.take k = lb.take k) ∧ Hid (Below w.heap.size w wr)) (fun i _ => n - (intOf i).toNat)
  case atStart => exact ⟨0, rfl, Nat.zero_le _, hide rfl, hide (bl_refl w)⟩
  case round =>
    obtain ⟨k, rfl, hk, HE, HW⟩ := hrel
    by_cases hlt : k < n
    · obtain ⟨b1, o1, x, rfl, hb1, hx, e1⟩ := (HA.out.below HW.out).at_ hlt
      obtain ⟨b2, o2, y, rfl, hb2, hy, e2⟩ := (HB.out.below HW.out).at_ (show k < m by have := HNM.out; omega)
      have hkn : (k : Int) < (n : Int) := by omega
      have hkm : (k : Int) < (m : Int) := by have := HNM.out; omega
      have HX := hide hx
      have HY := hide hy
      clear hx hy hlt
      go_wp2_with fail
      refine wp_region_K 8 (by kernel_rfl) (by kernel_rfl) (fun Q HQ => ?_)
      simp only [List.take_succ_cons, List.take_zero, List.map_cons, List.map_nil]
      repeat
        first | apply wpS_c rfl | apply wpS_gc rfl (guard_mk rfl rfl)
        focus
          intro ev wx hC hx
          (try simp [Op.operands, Call.operands, opndS, Slot.holds] at hx)
          have k1 : wx.cell? _ = _ := CB.cell hC (W0 := wr.drew) e1
          have k2 : wx.cell? _ = _ := CB.cell hC (W0 := wr.drew) e2
          go_simp
          try (first | exact rfl | exact ⟨Below.refl _ _, rfl⟩)
          done
        dsimp only [setS, List.set]
      refine wpS_nil (HQ _ fun w3 hC3 => ?_)
      simp only [closeS, List.drop_succ_cons, List.drop_zero]
      clear HQ
      have HW3 := hide (HW.out.trans (hC3.below.mono HW.out.size))
      clear hC3
      by_cases hxy : x = y
      · have t2 : ((x : Int) != (y : Int)) = false := by simp [hxy]
        have HT := hide (show la.take (k + 1) = lb.take (k + 1) by rw [take_at HX.out, take_at HY.out, HE.out, hxy])
        clear hxy
        go_wp2
        go_roundw
        case rel => exact ⟨k + 1, by go_num, by omega, HT, HW3⟩
        case measure => simp [intOf]; omega
      · have t2 : ((x : Int) != (y : Int)) = true := by rw [bne_iff_ne]; omega
        have HF := hide (show (la == lb) = false by
          rw [beq_eq_false_iff_ne]
          intro h
          have h1 := HX.out
          rw [h, HY.out] at h1
          exact hxy (Option.some.inj h1).symm)
        clear hxy
        go_wp2
        go_ret
        rw [HF.out]
        exact ⟨rfl, HW3.out⟩
    · obtain rfl : k = n := by omega
      have HT := hide (show (la == lb) = true by
        rw [beq_iff_eq]
        have h1 := HE.out
        rw [List.take_of_length_le (by rw [← HA.out.1]; exact Nat.le_refl _), List.take_of_length_le (by rw [← HB.out.1, HNM.out]; exact Nat.le_refl _)] at h1
        exact h1)
      go_wp2
      go_ret
      rw [HT.out]
      exact ⟨rfl, HW.out⟩
namespace blockRoundTrips
set_option maxHeartbeats 1000000 in
set_option maxRecDepth 100000 in
theorem walk (a : Option Addr) (n cap : Nat) (z : List Int) (i : Int) (w : World) (w0 : IsRow .i64 w a n cap z) (w1 : (Lit.int .i64 i).wf = true) :
    Calls Try.prog 8 #[.slice a n cap, .int .i64 i] w fun e w' => e = .returned (.bool true) ∧ Below w.heap.size w w' := by
  obtain ⟨l, hl, hc, hm, hz⟩ := w0.ints
  have HI := hide hl
  clear hl hz w0 w1
  by_cases h0 : chkV l = 0
  case neg =>
    obtain ⟨c, hcc⟩ : ∃ c, c = chkV l := ⟨_, rfl⟩
    have hc0 : (((c : Nat) : Int) != 0) = true := by rw [bne_iff_ne]; omega
    have HC := hide hcc
    clear hcc h0
    go_enter Try.func8, Try.ntmps8
    go_wp2_with fail
    refine (rcheck_any a n cap l w HI.out).mono ?_
    rintro e w' ⟨rfl, rfl⟩
    rw [← HC.out]
    go_wp2
    go_ret
    exact ⟨rfl, bl_refl _⟩
  have H0 := hide h0
  obtain ⟨vs, hvs⟩ : ∃ vs, vs = natsOf l := ⟨_, rfl⟩
  have HV := hide (HI.out.nats h0)
  have HOK := hide (natsOf_ok l h0).2
  rw [← hvs] at HV HOK
  have HVS := hide hvs
  have HPL := hide (show (packM vs).length ≤ 10000 by
    refine Nat.le_trans (packM_le vs 31 (by omega)) ?_
    have h1 := exB_length 31 vs 1 (by have := HOK.out.1; omega) HOK.out.2
    have h2 := exN_le 31 vs
    have h3 := HOK.out.1
    have h4 := (uv_le10 vs.length).2
    have h5 := (uv_le10 31).2
    have h6 := (uv_le10 (exN 31 vs)).2
    rw [encM_length]
    unfold nby
    omega)
  have HBK := hide ((blkOf_iff hlP hlP_ok (packM vs) vs).2 ⟨HOK.out, rfl⟩)
  have HN := hide HV.out.1
  clear hvs h0
  go_enter Try.func8, Try.ntmps8
  go_wp2_with fail
  refine (rcheck_any a n cap l w HI.out).mono ?_
  rintro e w' ⟨rfl, rfl⟩
  rw [H0.out]
  go_wp2_with fail
  refine (pack_any a n cap l w HI.out).mono ?_
  rintro e w1 ⟨v1, rfl, -, hgood, hb1⟩
  have ho := hgood H0.out
  rw [H0.out]
  rw [← HVS.out] at ho
  obtain ⟨p, hp⟩ : ∃ p, p = (packM vs).length := ⟨_, rfl⟩
  rw [← hp] at ho HPL
  obtain ⟨y1, A1, c1, rfl, hpc, r1, y4, y5⟩ := own_form ho
  have HR1 := hide (show BRd w1 A1 (packM vs) from r1)
  have HP := hide hp
  have HC1 := hide y4
  have HB1 := hide hb1
  have hp10 : p ≤ 10000 := HPL.out
  clear y1 r1 y4 y5 ho hgood hb1 hp
  go_wp2_with fail
  refine (unpack_any A1 p c1 (packM vs) w1 HP.out hpc hp10 HC1.out HR1.out).mono ?_
  rintro e w2 ⟨hu, hb2⟩
  rw [HBK.out] at hu
  obtain ⟨v2, rfl, hown⟩ := hu
  rw [← HN.out] at hown
  obtain ⟨A2, c2, rfl, hc2, hv2⟩ := own_isV hown
  have HV2 := hide hv2
  have HB2 := hide (bl_trans HB1.out hb2)
  have HR2 := hide (HR1.out.below hb2)
  clear hown hv2 hb2
  go_wp2_with fail
  refine (sameI_any A2 a n n c2 cap vs vs w2 HV2.out (HV.out.below HB2.out) (by have := HN.out; have := HOK.out.1; omega)).mono ?_
  rintro e w3 ⟨rfl, hb3⟩
  rw [beq_self_eq_true]
  have HB3 := hide (bl_trans HB2.out hb3)
  have HR3 := hide (HR2.out.below hb3)
  clear hb3
  go_wp2_with fail
  refine (get_any A1 p c1 (packM vs) i w3 HP.out hpc hp10 HC1.out HR3.out).mono ?_
  rintro e w4 ⟨rfl, hb4⟩
  rw [HBK.out]
  have hg : getM (some vs) i = if i < 0 ∨ (vs.length : Int) ≤ i then (0, 8) else (vs.getD i.toNat 0, 0) := rfl
  rw [← HN.out] at hg
  have HG := hide hg
  have HB4 := hide (bl_trans HB3.out hb4)
  clear hb4 hg
  by_cases h1 : i < 0
  · rw [HG.out.trans (if_pos (.inl h1))]
    go_wp2_with fail
    refine (awake_any w4).mono ?_
    rintro e w5 ⟨rfl, hb⟩
    go_wp2
    go_ret
    exact ⟨rfl, bl_trans HB4.out hb⟩
  by_cases h2 : (n : Int) ≤ i
  · rw [HG.out.trans (if_pos (.inr h2))]
    go_wp2_with fail
    refine (awake_any w4).mono ?_
    rintro e w5 ⟨rfl, hb⟩
    go_wp2
    go_ret
    exact ⟨rfl, bl_trans HB4.out hb⟩
  rw [HG.out.trans (if_neg (by omega))]
  obtain ⟨k, rfl⟩ := Int.eq_ofNat_of_zero_le (show 0 ≤ i by omega)
  rw [Int.toNat_natCast]
  obtain ⟨b', o, x, rfl, hbl, hx, e0⟩ := (HV.out.below HB4.out).at_ (k := k) (by omega)
  rw [show vs.getD k 0 = x by simp [List.getD, hx]]
  clear hx
  have h3 : (k : Int) < (n : Int) := by omega
  go_wp2_with fail
  refine (awake_any w4).mono ?_
  rintro e w5 ⟨rfl, hb⟩
  go_wp2
  go_ret
  exact ⟨rfl, bl_trans HB4.out hb⟩
end blockRoundTrips
end Go.Proofs.Ytchcaidcohgjbaa
