/- The walks of Width, Cost, Pack, and of the reference's Width and Pack. -/
import Derived.Test.YtchcaidcohgjbaaKRbW
namespace Go.Proofs.Ytchcaidcohgjbaa
open Go.RowKit
set_option linter.unusedVariables false
set_option linter.unusedSimpArgs false
/-- The numbers of a list that is a block. -/
def natsOf (l : List Int) : List Nat := l.map Int.toNat
theorem natsOf_ok (l : List Int) (h : chkV l = 0) : l = (natsOf l).map Int.ofNat ∧ okV (natsOf l) := by
  obtain ⟨vs, rfl, hok⟩ := chkV_zero l h
  have e : natsOf (vs.map Int.ofNat) = vs := by
    unfold natsOf
    rw [List.map_map]
    conv => rhs; rw [← List.map_id vs]
    exact List.map_congr_left fun x _ => by simp
  rw [e]
  exact ⟨rfl, hok⟩
theorem natsOf_of (vs : List Nat) : natsOf (vs.map Int.ofNat) = vs := by
  unfold natsOf
  rw [List.map_map]
  conv => rhs; rw [← List.map_id vs]
  exact List.map_congr_left fun x _ => by simp
def widthM (l : List Int) : Nat := if chkV l = 0 then bestM (natsOf l) else 0
theorem IsI.nats {w : World} {a : Option Addr} {n : Nat} {l : List Int} (h : IsI w a n l) (h0 : chkV l = 0) : IsV w a n (natsOf l) := by
  have e := (natsOf_ok l h0).1
  rw [e] at h
  exact h.isV
set_option maxRecDepth 100000 in
theorem width_any (a : Option Addr) (n cap : Nat) (l : List Int) (w : World) (h : IsI w a n l) :
    Calls Try.prog 13 #[.slice a n cap] w fun e w' => e = .returned (.int .i64 ((widthM l : Nat) : Int)) ∧ Below w.heap.size w w' := by
  have HI := hide h
  clear h
  by_cases h0 : chkV l = 0
  · have HR := hide (show widthM l = bestM (natsOf l) from if_pos h0)
    have HV := hide (HI.out.nats h0)
    have HOK := hide (natsOf_ok l h0).2
    have H0 := hide h0
    clear h0
    go_enter Try.func13, Try.ntmps13
    go_wp2_with fail
    refine (check_any a n cap l w HI.out).mono ?_
    rintro e w' ⟨rfl, rfl⟩
    rw [H0.out]
    go_wp2_with fail
    refine (best_any a n cap _ w HV.out HOK.out).mono ?_
    rintro e w1 ⟨rfl, hb1⟩
    go_wp2
    go_ret
    exact ⟨by rw [HR.out]; rfl, hb1⟩
  · have HR := hide (show widthM l = 0 from if_neg h0)
    obtain ⟨c, hc⟩ : ∃ c, c = chkV l := ⟨_, rfl⟩
    have hc0 : (((c : Nat) : Int) != 0) = true := by rw [bne_iff_ne]; omega
    have HC := hide hc
    clear hc h0
    go_enter Try.func13, Try.ntmps13
    go_wp2_with fail
    refine (check_any a n cap l w HI.out).mono ?_
    rintro e w' ⟨rfl, rfl⟩
    rw [← HC.out]
    go_wp2
    go_ret
    exact ⟨by rw [HR.out]; rfl, bl_refl w⟩
set_option maxRecDepth 100000 in
theorem rwidth_any (a : Option Addr) (n cap : Nat) (l : List Int) (w : World) (h : IsI w a n l) :
    Calls Try.prog 15 #[.slice a n cap] w fun e w' => e = .returned (.int .i64 ((widthM l : Nat) : Int)) ∧ Below w.heap.size w w' := by
  have HI := hide h
  clear h
  by_cases h0 : chkV l = 0
  · have HR := hide (show widthM l = bestM (natsOf l) from if_pos h0)
    have HV := hide (HI.out.nats h0)
    have HOK := hide (natsOf_ok l h0).2
    have H0 := hide h0
    clear h0
    go_enter Try.func15, Try.ntmps15
    go_wp2_with fail
    refine (rcheck_any a n cap l w HI.out).mono ?_
    rintro e w' ⟨rfl, rfl⟩
    rw [H0.out]
    go_wp2_with fail
    obtain ⟨vs, hvs⟩ : ∃ vs, vs = natsOf l := ⟨_, rfl⟩
    rw [← hvs] at HR HV HOK
    clear hvs
    go_loopw [3, 4] (fun bv i wr => ∃ k b : Nat, bv = .int .i64 (b : Int) ∧ i = .int .i64 (k : Int) ∧ 1 ≤ k ∧ k ≤ 32 ∧ b ≤ 31 ∧ Hid (b = bst (costF vs) k) ∧ Hid (Below w.heap.size w wr)) (fun _ i _ => 32 - (intOf i).toNat)
    case atStart => exact ⟨1, 0, rfl, rfl, Nat.le_refl _, by omega, by omega, hide (by simp [bst]), hide (bl_refl w)⟩
    case round =>
      obtain ⟨k, b, rfl, rfl, hk1, hk, hb, HB, HW⟩ := hrel
      by_cases hlt : k ≤ 31
      · have hkn : (k : Int) ≤ 31 := by omega
        have HBS := hide (show bst (costF vs) (k + 1) = if costF vs k < costF vs b then k else b by rw [HB.out]; rfl)
        obtain ⟨c1, hc1⟩ : ∃ c, c = costF vs k := ⟨_, rfl⟩
        obtain ⟨c2, hc2⟩ : ∃ c, c = costF vs b := ⟨_, rfl⟩
        rw [← hc1, ← hc2] at HBS
        have HC1 := hide hc1
        have HC2 := hide hc2
        clear hc1 hc2
        go_wp2_with fail
        refine (rbytes_any a n cap vs k _ wr (HV.out.below HW.out) HOK.out rfl (by omega)).mono ?_
        rintro e w1 ⟨v1, rfl, ho1, hb1⟩
        obtain ⟨y1, A1, d1, rfl, y2, y3, y4, y5⟩ := own_form ho1
        clear y1 y2 y3 y4 y5 ho1
        rw [show (encM k vs).length = c1 from HC1.out.symm]
        have HW1 := hide (HW.out.trans (hb1.mono HW.out.size))
        clear hb1
        go_wp2_with fail
        refine (rbytes_any a n cap vs b _ w1 (HV.out.below HW1.out) HOK.out rfl (by omega)).mono ?_
        rintro e w2 ⟨v2, rfl, ho2, hb2⟩
        obtain ⟨y1, A2, d2, rfl, y2, y3, y4, y5⟩ := own_form ho2
        clear y1 y2 y3 y4 y5 ho2
        rw [show (encM b vs).length = c2 from HC2.out.symm]
        have HW2 := hide (HW1.out.trans (hb2.mono HW1.out.size))
        clear hb2
        by_cases hlt2 : c1 < c2
        · have t1 : (c1 : Int) < c2 := by omega
          have HBS2 := hide (HBS.out.trans (if_pos hlt2))
          clear HBS
          go_wp2
          go_roundw
          case rel => exact ⟨k + 1, k, by go_num, by go_num, by omega, by omega, by omega, hide HBS2.out.symm, HW2⟩
          case measure => simp [intOf]; omega
        · have t1 : ¬ (c1 : Int) < c2 := by omega
          have HBS2 := hide (HBS.out.trans (if_neg hlt2))
          clear HBS
          go_wp2
          go_roundw
          case rel => exact ⟨k + 1, b, by go_num, by go_num, by omega, by omega, by omega, hide HBS2.out.symm, HW2⟩
          case measure => simp [intOf]; omega
      · obtain rfl : k = 32 := by omega
        go_wp2
        go_ret
        exact ⟨by rw [HR.out, HB.out]; rfl, HW.out⟩
  · have HR := hide (show widthM l = 0 from if_neg h0)
    obtain ⟨c, hc⟩ : ∃ c, c = chkV l := ⟨_, rfl⟩
    have hc0 : (((c : Nat) : Int) != 0) = true := by rw [bne_iff_ne]; omega
    have HC := hide hc
    clear hc h0
    go_enter Try.func15, Try.ntmps15
    go_wp2_with fail
    refine (rcheck_any a n cap l w HI.out).mono ?_
    rintro e w' ⟨rfl, rfl⟩
    rw [← HC.out]
    go_wp2
    go_ret
    exact ⟨by rw [HR.out]; rfl, bl_refl w⟩
/-- What Cost answers. -/
def costM (l : List Int) (x : Int) : Nat × Nat := if chkV l ≠ 0 then (0, chkV l) else if x < 0 ∨ 31 < x then (0, 1) else (costF (natsOf l) x.toNat, 0)
set_option maxRecDepth 100000 in
theorem costs_any (a : Option Addr) (n cap : Nat) (l : List Int) (x : Int) (w : World) (h : IsI w a n l) :
    Calls Try.prog 16 #[.slice a n cap, .int .i64 x] w fun e w' => e = .returned (.tuple #[.int .i64 (((costM l x).1 : Nat) : Int), .int .i64 (((costM l x).2 : Nat) : Int)]) ∧ w = w' := by
  have HI := hide h
  clear h
  by_cases h0 : chkV l = 0
  · have HV := hide (HI.out.nats h0)
    have HOK := hide (natsOf_ok l h0).2
    have H0 := hide h0
    have HR := hide (show costM l x = if x < 0 ∨ 31 < x then (0, 1) else (costF (natsOf l) x.toNat, 0) from if_neg (by simp [h0]))
    clear h0
    by_cases h1 : x < 0
    · have HR1 := hide (HR.out.trans (if_pos (.inl h1)))
      go_enter Try.func16, Try.ntmps16
      go_wp2_with fail
      refine (check_any a n cap l w HI.out).mono ?_
      rintro e w' ⟨rfl, rfl⟩
      rw [H0.out]
      go_wp2
      go_ret2
      rw [HR1.out]
      exact ⟨rfl, rfl⟩
    by_cases h2 : 31 < x
    · have HR1 := hide (HR.out.trans (if_pos (.inr h2)))
      go_enter Try.func16, Try.ntmps16
      go_wp2_with fail
      refine (check_any a n cap l w HI.out).mono ?_
      rintro e w' ⟨rfl, rfl⟩
      rw [H0.out]
      go_wp2
      go_ret2
      rw [HR1.out]
      exact ⟨rfl, rfl⟩
    have HR1 := hide (HR.out.trans (if_neg (by omega)))
    obtain ⟨k, rfl⟩ := Int.eq_ofNat_of_zero_le (show 0 ≤ x by omega)
    go_enter Try.func16, Try.ntmps16
    go_wp2_with fail
    refine (check_any a n cap l w HI.out).mono ?_
    rintro e w' ⟨rfl, rfl⟩
    rw [H0.out]
    go_wp2_with fail
    refine (cost_any a n cap _ k _ w HV.out HOK.out rfl (by omega)).mono ?_
    rintro e w' ⟨rfl, rfl⟩
    go_wp2
    go_ret2
    rw [HR1.out]
    exact ⟨rfl, rfl⟩
  · have HR := hide (show costM l x = (0, chkV l) from if_pos h0)
    obtain ⟨c, hc⟩ : ∃ c, c = chkV l := ⟨_, rfl⟩
    have hc0 : (((c : Nat) : Int) != 0) = true := by rw [bne_iff_ne]; omega
    rw [← hc] at HR
    have HC := hide hc
    clear hc h0
    go_enter Try.func16, Try.ntmps16
    go_wp2_with fail
    refine (check_any a n cap l w HI.out).mono ?_
    rintro e w' ⟨rfl, rfl⟩
    rw [← HC.out]
    go_wp2
    go_ret2
    rw [HR.out]
    exact ⟨rfl, rfl⟩
set_option maxRecDepth 100000 in
theorem pack_any (a : Option Addr) (n cap : Nat) (l : List Int) (w : World) (h : IsI w a n l) :
    Calls Try.prog 11 #[.slice a n cap] w fun e w' => ∃ v, e = .returned (.tuple #[v, .int .i64 ((chkV l : Nat) : Int)]) ∧ (chkV l ≠ 0 → v = .slice none 0 0) ∧ (chkV l = 0 → w'.ownsRow w.heap.size 5 1 v (packM (natsOf l)).length ((packM (natsOf l)).map u8v)) ∧ Below w.heap.size w w' := by
  have HI := hide h
  clear h
  by_cases h0 : chkV l = 0
  · have HV := hide (HI.out.nats h0)
    have HOK := hide (natsOf_ok l h0).2
    have H0 := hide h0
    clear h0
    go_enter Try.func11, Try.ntmps11
    go_wp2_with fail
    refine (check_any a n cap l w HI.out).mono ?_
    rintro e w' ⟨rfl, rfl⟩
    rw [H0.out]
    go_wp2_with fail
    refine (best_any a n cap _ w HV.out HOK.out).mono ?_
    rintro e w1 ⟨rfl, hb1⟩
    have HB1 := hide hb1
    have hk := bestM_lt (natsOf l)
    have HK := hide hk
    clear hb1 hk
    go_wp2_with fail
    refine (encode_any a n cap _ (bestM (natsOf l)) _ w1 (HV.out.below HB1.out) HOK.out rfl HK.out).mono ?_
    rintro e w2 ⟨v2, rfl, ho2, hb2⟩
    go_wp2
    go_ret2
    exact ⟨v2, by rw [H0.out]; rfl, fun h => absurd H0.out h, fun _ => own_base ho2 HB1.out.size, bl_trans HB1.out hb2⟩
  · obtain ⟨c, hc⟩ : ∃ c, c = chkV l := ⟨_, rfl⟩
    have hc0 : (((c : Nat) : Int) != 0) = true := by rw [bne_iff_ne]; omega
    have HC := hide hc
    have H0 := hide h0
    clear hc h0
    go_enter Try.func11, Try.ntmps11
    go_wp2_with fail
    refine (check_any a n cap l w HI.out).mono ?_
    rintro e w' ⟨rfl, rfl⟩
    rw [← HC.out]
    go_wp2
    go_ret2
    exact ⟨.slice none 0 0, by rw [← HC.out]; rfl, fun _ => rfl, fun h => absurd h H0.out, bl_refl w⟩
set_option maxRecDepth 100000 in
theorem rpack_any (a : Option Addr) (n cap : Nat) (l : List Int) (w : World) (h : IsI w a n l) (h0 : chkV l = 0) :
    Calls Try.prog 14 #[.slice a n cap] w fun e w' => ∃ v, e = .returned v ∧ w'.ownsRow w.heap.size 5 1 v (packM (natsOf l)).length ((packM (natsOf l)).map u8v) ∧ Below w.heap.size w w' := by
  have HI := hide h
  have HV := hide (HI.out.nats h0)
  have HOK := hide (natsOf_ok l h0).2
  have HW := hide (show widthM l = bestM (natsOf l) from if_pos h0)
  clear h h0
  go_enter Try.func14, Try.ntmps14
  go_wp2_with fail
  refine (rwidth_any a n cap l w HI.out).mono ?_
  rintro e w1 ⟨rfl, hb1⟩
  have HB1 := hide hb1
  have HK := hide (bestM_lt (natsOf l))
  clear hb1
  rw [HW.out]
  go_wp2_with fail
  refine (rbytes_any a n cap _ (bestM (natsOf l)) _ w1 (HV.out.below HB1.out) HOK.out rfl HK.out).mono ?_
  rintro e w2 ⟨v2, rfl, ho2, hb2⟩
  go_wp2
  go_ret
  exact ⟨v2, rfl, own_base ho2 HB1.out.size, bl_trans HB1.out hb2⟩
end Go.Proofs.Ytchcaidcohgjbaa
