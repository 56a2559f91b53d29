/- The walks of the reference's Check and Seek, of SameInts, and of the laws' built and awake. -/
import Derived.Test.YtnflffhmnbjelaaQEnW
namespace Go.Proofs.Ytnflffhmnbjelaa
open Go.RowKit
set_option linter.unusedVariables false
set_option linter.unusedSimpArgs false
set_option maxHeartbeats 1000000 in
set_option maxRecDepth 100000 in
theorem rcheck_any (a : Option Addr) (n cap : Nat) (l : List Int) (w : World) (h : IsI w a n l) (hc : n ≤ cap) (hcm : cap ≤ maxLen) :
    Calls Try.prog 24 #[.slice a n cap] w fun e w' => e = .returned (.int .i64 ((chkL l : Nat) : Int)) ∧ Below w.heap.size w w' := by
  have HI := hide h
  have HN := hide h.1
  unfold maxLen at hcm
  clear h
  by_cases h4 : 4096 < n
  · have h4' : (4096 : Int) < (n : Int) := by omega
    have hr : chkL l = 2 := by unfold chkL; rw [if_pos (by rw [← HN.out]; exact h4)]
    rw [hr]
    clear hr
    go_enter Try.func24, Try.ntmps24
    go_wp2
    go_ret
    exact ⟨rfl, bl_refl w⟩
  have h4' : ¬ (4096 : Int) < (n : Int) := by omega
  have hr : chkL l = chkS none l := by unfold chkL; rw [if_neg (by rw [← HN.out]; exact h4)]
  have HRR := hide hr
  clear hr h4
  go_enter Try.func24, Try.ntmps24
  go_wp2_with fail
  go_loopw [10] (fun i wr => ∃ k : Nat, i = .int .i64 (k : Int) ∧ k ≤ n ∧ Hid (chkL l = chkS (l.take k).getLast? (l.drop k)) ∧ Below w.heap.size w wr) (fun i _ => n - (intOf i).toNat)
  case atStart => exact ⟨0, rfl, Nat.zero_le _, hide (by rw [HRR.out]; rfl), bl_refl w⟩
  case round =>
    obtain ⟨k, rfl, hk, HC, hb⟩ := hrel
    by_cases hlt : k < n
    · obtain ⟨b, o, x, rfl, hbl, hx, e0⟩ := (HI.out.below hb).at_ hlt
      have hkn : (k : Int) < (n : Int) := by omega
      have hd := drop_at hx
      have HX := hide hx
      have HD := hide hd
      clear hx hd hlt
      by_cases h1 : x < 0
      · have hr : chkL l = 8 := by rw [HC.out, HD.out]; unfold chkS; rw [if_pos (.inl h1)]
        have HR := hide hr
        clear hr
        go_wp2
        go_ret
        exact ⟨by rw [HR.out]; rfl, hb⟩
      by_cases h2 : 2147483647 < x
      · have hr : chkL l = 8 := by rw [HC.out, HD.out]; unfold chkS; rw [if_pos (.inr h2)]
        have HR := hide hr
        clear hr
        go_wp2
        go_ret
        exact ⟨by rw [HR.out]; rfl, hb⟩
      have hst : chkL l = if geP (l.take k).getLast? x = true then 6 else chkS (some x) (l.drop (k + 1)) := by
        rw [HC.out, HD.out]
        rw [chkS_cons, if_neg (by omega)]
      have hnext : (l.take (k + 1)).getLast? = some x := last_take HX.out
      have HST := hide hst
      have HNX := hide hnext
      clear hst hnext
      rcases k with _ | k
      · have hr : chkL l = chkS (l.take (0 + 1)).getLast? (l.drop (0 + 1)) := by rw [HST.out, HNX.out]; rfl
        have e00 : wr.cell? ⟨b, o, none⟩ = some (.int .i64 x) := e0
        have hn0 : 0 < n := by omega
        have HR := hide hr
        clear hr
        have hb3 := hb
        have hk1 : 1 ≤ n := by omega
        go_wp2
        go_roundw
        case rel => exact ⟨1, rfl, hk1, HR, hb3⟩
        case measure => simp [intOf]; omega
      · obtain ⟨b', o', y, he, _, hy, e1⟩ := (HI.out.below hb).at_ (k := k) (by omega)
        injection he with he
        injection he with q1 q2
        subst q1 q2
        have hk0 : (0 : Int) < ((k + 1 : Nat) : Int) := by omega
        have hks : ((k + 1 : Nat) : Int) - 1 = (k : Int) := by omega
        have hkn1 : (k : Int) < (n : Int) := by omega
        have hge : geP (l.take (k + 1)).getLast? x = decide (x ≤ y) := by rw [last_take hy]; rfl
        have HGE := hide hge
        clear hge hy
        by_cases h3 : x ≤ y
        · have hr : chkL l = 6 := by rw [HST.out, HGE.out, if_pos (by simpa using h3)]
          have HR := hide hr
          clear hr
          have hb3 := hb
          go_wp2
          go_ret
          exact ⟨by rw [HR.out]; rfl, hb3⟩
        · have h3' : y < x := by omega
          have hr : chkL l = chkS (l.take (k + 1 + 1)).getLast? (l.drop (k + 1 + 1)) := by rw [HST.out, HGE.out, if_neg (by simpa using h3'), HNX.out]
          have HR := hide hr
          clear hr
          have hb3 := hb
          go_wp2
          go_roundw
          case rel => exact ⟨k + 1 + 1, by go_num, by omega, HR, hb3⟩
          case measure => simp [intOf]; omega
    · obtain rfl : k = n := by omega
      have hr : chkL l = 0 := by rw [HC.out, List.drop_of_length_le (by rw [← HN.out]; exact Nat.le_refl _)]; rfl
      have HR := hide hr
      clear hr
      go_wp2
      go_ret
      exact ⟨by rw [HR.out]; rfl, hb⟩
set_option maxHeartbeats 1000000 in
set_option maxRecDepth 100000 in
theorem same_ints (a b : Option Addr) (n c m d : Nat) (l k : List Int) (w : World) (ha : IsI w a n l) (hb : IsI w b m k) (hc : n ≤ c) (hd : m ≤ d) (hn : n ≤ 100000) (hm : m ≤ 100000) :
    Calls Try.prog 18 #[.slice a n c, .slice b m d] w fun e w' => e = .returned (.bool (decide (l = k))) ∧ Below w.heap.size w w' := by
  have HA := hide ha
  have HB := hide hb
  by_cases hnm : n = m
  · subst hnm
    obtain ⟨r, hr⟩ : ∃ r, r = decide (l = k) := ⟨_, rfl⟩
    rw [← hr]
    have HRR := hide hr
    clear ha hb hr
    go_enter Try.func18, Try.ntmps18
    go_wp2_with fail
    go_loopw [13] (fun i wr => ∃ q : Nat, i = .int .i64 (q : Int) ∧ q ≤ n ∧ Hid (l.take q = k.take q) ∧ Below w.heap.size w wr) (fun i _ => n - (intOf i).toNat)
    case atStart => exact ⟨0, rfl, Nat.zero_le _, hide rfl, bl_refl w⟩
    case round =>
      obtain ⟨q, rfl, hq, HQ, hbq⟩ := hrel
      by_cases hlt : q < n
      · obtain ⟨b1, o1, x, rfl, hl1, hg1, e0⟩ := (HA.out.below hbq).at_ hlt
        obtain ⟨b2, o2, y, rfl, hl2, hg2, e2⟩ := (HB.out.below hbq).at_ hlt
        have HG1 := hide hg1
        have HG2 := hide hg2
        have hkn : (q : Int) < (n : Int) := by omega
        clear hg1 hg2
        go_wp2_with fail
        have f0 : ∀ wx, CB wr.drew wx → wx.cell? ⟨b1, o1 + q, none⟩ = some (.int .i64 x) := fun wx h => h.cell e0
        have f2 : ∀ wx, CB wr.drew wx → wx.cell? ⟨b2, o2 + q, none⟩ = some (.int .i64 y) := fun wx h => h.cell e2
        refine wp_region_K 8 (by kernel_rfl) (by kernel_rfl) (fun Q HQQ => ?_)
        simp only [List.take_succ_cons, List.take_zero, List.map_cons, List.map_nil]
        repeat
          first | apply wpS_c rfl | apply wpS_gc rfl (guard_mk rfl rfl)
          focus
            intro ev wx hC hx
            (try simp [Op.operands, Call.operands, opndS, Slot.holds] at hx)
            go_simp
            try (first | exact rfl | exact ⟨Below.refl _ _, rfl⟩)
            done
          dsimp only [setS, List.set]
        refine wpS_nil (HQQ _ fun w3 hC3 => ?_)
        simp only [closeS, List.drop_succ_cons, List.drop_zero, List.drop_nil]
        clear HQQ f0 f2
        have hb3 : Below w.heap.size w w3 := hbq.trans (hC3.below.mono hbq.size)
        by_cases hxy : x = y
        · subst hxy
          go_wp2
          go_roundw
          case rel => exact ⟨q + 1, by go_num, by omega, hide (by rw [List.take_add_one, List.take_add_one, HQ.out, HG1.out, HG2.out]), hb3⟩
          case measure => simp [intOf]; omega
        · have hr : r = false := by
            rw [HRR.out, decide_eq_false_iff_not]
            rintro rfl
            have h1 := HG1.out
            rw [HG2.out] at h1
            injection h1 with h1
            exact hxy h1.symm
          have hxy' : (x != y) = true := by simpa using hxy
          subst hr
          clear hxy
          go_wp2
          go_ret
          exact ⟨rfl, hb3⟩
      · obtain rfl : q = n := by omega
        have hr : r = true := by
          rw [HRR.out, decide_eq_true_iff]
          have := HQ.out
          rwa [List.take_of_length_le (by rw [← HA.out.1]; exact Nat.le_refl _), List.take_of_length_le (by rw [← HB.out.1]; exact Nat.le_refl _)] at this
        subst hr
        go_wp2
        go_ret
        exact ⟨rfl, hbq⟩
  · have hr : decide (l = k) = false := by
      rw [decide_eq_false_iff_not]
      rintro rfl
      exact hnm (ha.1.trans hb.1.symm)
    rw [hr]
    have hnm' : ((n : Int) != (m : Int)) = true := by rw [bne_iff_ne]; omega
    clear ha hb hr hnm
    go_enter Try.func18, Try.ntmps18
    go_wp2
    go_ret
    exact ⟨rfl, bl_refl w⟩
/-- What Seek answers, of integers. -/
def seekZ (z : List Int) (p : Int) : Value := if (z.findIdx fun x => decide (p ≤ x)) < z.length then .tuple #[.int .i64 (z.getD (z.findIdx fun x => decide (p ≤ x)) 0), .int .i64 ((z.findIdx fun x => decide (p ≤ x) : Nat) : Int), .bool true] else .tuple #[.int .i64 0, .int .i64 ((z.length : Nat) : Int), .bool false]
theorem seekZ_at {z : List Int} {p x : Int} {i : Nat} (h1 : ∀ j y, j < i → z[j]? = some y → y < p) (hx : z[i]? = some x) (hp : p ≤ x) : seekZ z p = .tuple #[.int .i64 x, .int .i64 (i : Int), .bool true] := by
  obtain ⟨hi, hx'⟩ := List.getElem?_eq_some_iff.1 hx
  have h : (z.findIdx fun x => decide (p ≤ x)) = i := by
    apply (List.findIdx_eq hi).2
    refine ⟨by rw [hx']; simpa using hp, fun j hj => ?_⟩
    have := h1 j _ hj (List.getElem?_eq_getElem (by omega))
    simp; omega
  unfold seekZ
  rw [h, if_pos hi]
  simp [List.getD, hx]
theorem seekZ_no {z : List Int} {p : Int} (h1 : ∀ j y, j < z.length → z[j]? = some y → y < p) : seekZ z p = .tuple #[.int .i64 0, .int .i64 ((z.length : Nat) : Int), .bool false] := by
  have h : (z.findIdx fun x => decide (p ≤ x)) = z.length := by
    apply List.findIdx_eq_length.2
    intro x hx
    obtain ⟨j, hj, rfl⟩ := List.mem_iff_getElem.1 hx
    have := h1 j _ hj (List.getElem?_eq_getElem hj)
    simp; omega
  unfold seekZ
  rw [h, if_neg (by omega)]
set_option maxRecDepth 100000 in
theorem rseek_any (a : Option Addr) (n cap : Nat) (l : List Int) (p : Int) (w : World) (h : IsI w a n l) (hc : n ≤ 100000) :
    Calls Try.prog 13 #[.slice a n cap, .int .i64 p] w fun e w' => e = .returned (seekZ l p) ∧ Below w.heap.size w w' := by
  have HI := hide h
  have HN := hide h.1
  clear h
  go_enter Try.func13, Try.ntmps13
  go_wp2_with fail
  go_loopw [11] (fun i wr => ∃ k : Nat, i = .int .i64 (k : Int) ∧ k ≤ n ∧ Hid (∀ j y, j < k → l[j]? = some y → y < p) ∧ Below w.heap.size w wr) (fun i _ => n - (intOf i).toNat)
  case atStart => exact ⟨0, rfl, Nat.zero_le _, hide (fun j y h => absurd h (by omega)), bl_refl w⟩
  case round =>
    obtain ⟨k, rfl, hk, HC, hb⟩ := hrel
    by_cases hlt : k < n
    · obtain ⟨b, o, x, rfl, hbl, hx, e0⟩ := (HI.out.below hb).at_ hlt
      have hkn : (k : Int) < (n : Int) := by omega
      have HX := hide hx
      clear hx
      by_cases h1 : p ≤ x
      · have HR := hide (seekZ_at HC.out HX.out h1)
        go_wp2
        go_ret3
        exact ⟨by rw [HR.out]; try rfl, hb⟩
      · have HC2 := hide (show ∀ j y, j < k + 1 → l[j]? = some y → y < p from fun j y hj hy => by
          by_cases hjk : j = k
          · rw [hjk, HX.out] at hy
            injection hy with hy
            omega
          · exact HC.out j y (by omega) hy)
        go_wp2
        go_roundw
        case rel => exact ⟨k + 1, by go_num, by omega, HC2, hb⟩
        case measure => simp [intOf]; omega
    · obtain rfl : k = n := by omega
      have HR := hide (seekZ_no (z := l) (p := p) (by rw [← HN.out]; exact HC.out))
      rw [← HN.out] at HR
      go_wp2
      go_ret3
      exact ⟨by rw [HR.out]; try rfl, hb⟩
end Go.Proofs.Ytnflffhmnbjelaa
