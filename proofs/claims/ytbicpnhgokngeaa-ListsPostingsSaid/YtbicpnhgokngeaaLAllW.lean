/- Lists of lists in memory; the walks of both CheckAll; equality of lists of ints. -/
import Derived.Test.YtbicpnhgokngeaaLChW
namespace Go.Proofs.Ytbicpnhgokngeaa
open Go.RowKit
set_option linter.unusedVariables false
set_option linter.unusedSimpArgs false
def IsLL (w : World) (a : Option Addr) (n : Nat) (ls : List (List Int)) : Prop :=
  n = ls.length ∧ ∃ vs : List Value, Rd w a vs ∧ vs.length = n ∧ ∀ (i : Nat) (l : List Int), ls[i]? = some l → ∃ (a' : Option Addr) (c : Nat), vs[i]? = some (Value.slice a' l.length c) ∧ l.length ≤ c ∧ c ≤ maxLen ∧ Rd w a' (l.map iv)
theorem IsLL.below {w w' : World} {a : Option Addr} {n : Nat} {ls : List (List Int)} (h : IsLL w a n ls) (hb : Below w.heap.size w w') : IsLL w' a n ls := by
  obtain ⟨h1, vs, h2, h3, h4⟩ := h
  exact ⟨h1, vs, h2.below hb, h3, fun i l hi => by obtain ⟨a', c, g1, g2, g3, g4⟩ := h4 i l hi; exact ⟨a', c, g1, g2, g3, g4.below hb⟩⟩
theorem IsLL.at_ {w : World} {a : Option Addr} {n : Nat} {ls : List (List Int)} (h : IsLL w a n ls) {k : Nat} (hk : k < n) :
    ∃ b o l a' c, a = some ⟨b, o, none⟩ ∧ b < w.heap.size ∧ ls[k]? = some l ∧ w.cell? ⟨b, o + k, none⟩ = some (.slice a' l.length c) ∧ l.length ≤ c ∧ c ≤ maxLen ∧ IsI w a' l.length l := by
  obtain ⟨h1, vs, h2, h3, h4⟩ := h
  have hc : ls[k]? = some (ls[k]'(by omega)) := List.getElem?_eq_getElem _
  obtain ⟨a', c, g1, g2, g3, g4⟩ := h4 k _ hc
  obtain ⟨b, o, ha, hb, e⟩ := h2.at_ g1
  exact ⟨b, o, _, a', c, ha, hb, hc, e, g2, g3, rfl, g4⟩
theorem dropl_at {α : Type} {l : List α} {k : Nat} {x : α} (h : l[k]? = some x) : l.drop k = x :: l.drop (k + 1) := by
  obtain ⟨h1, h2⟩ := List.getElem?_eq_some_iff.1 h
  rw [← h2, List.drop_eq_getElem_cons h1]
set_option maxHeartbeats 1000000 in
set_option maxRecDepth 100000 in
theorem all_any (a : Option Addr) (n cap : Nat) (ls : List (List Int)) (w : World) (h : IsLL w a n ls) (hn : n ≤ 100000) :
    Calls Try.prog 18 #[.slice a n cap] w fun e w' => e = .returned (.int .i64 ((chkA ls : Nat) : Int)) ∧ Below w.heap.size w w' := by
  have HI := hide h
  have HN := hide h.1
  clear h
  go_enter Try.func18, Try.ntmps18
  go_wp2_with fail
  go_loopw [8] (fun i wr => ∃ k : Nat, i = .int .i64 (k : Int) ∧ k ≤ n ∧ Hid (chkA ls = chkA (ls.drop k)) ∧ Below w.heap.size w wr) (fun i _ => n - (intOf i).toNat)
  case atStart => exact ⟨0, rfl, Nat.zero_le _, hide rfl, bl_refl w⟩
  case round =>
    obtain ⟨k, rfl, hk, HC, hb⟩ := hrel
    by_cases hlt : k < n
    · obtain ⟨b, o, l, a', c, rfl, hbl, hx, e0, hlc, hcm, hi⟩ := (HI.out.below hb).at_ hlt
      have hkn : (k : Int) < (n : Int) := by omega
      have hst : chkA ls = if chkL l = 0 then chkA (ls.drop (k + 1)) else chkL l := by rw [HC.out, dropl_at hx]; rfl
      have HST := hide hst
      have HL := hide hi
      obtain ⟨m, hm⟩ : ∃ m, m = l.length := ⟨_, rfl⟩
      rw [← hm] at e0 hlc
      have HM := hide hm
      clear hx hst hi hlt hm
      go_wp2_with fail
      refine (check_any a' m c l wr (by rw [HM.out]; exact HL.out) hlc hcm).mono ?_
      rintro e w2 ⟨rfl, hb2⟩
      have hb02 := hb.trans (hb2.mono hb.size)
      by_cases hz : chkL l = 0
      · have hr : chkA ls = chkA (ls.drop (k + 1)) := by rw [HST.out, if_pos hz]
        have HR := hide hr
        rw [hz]
        clear hr hz
        go_wp2
        go_roundw
        case rel => exact ⟨k + 1, by go_num, by omega, HR, hb02⟩
        case measure => simp [intOf]; omega
      · have hr : chkA ls = chkL l := by rw [HST.out, if_neg hz]
        obtain ⟨q, hq⟩ : ∃ q, q = chkL l := ⟨_, rfl⟩
        rw [← hq] at hr hz ⊢
        have hqz : ((q : Int) != 0) = true := by rw [bne_iff_ne]; omega
        have HR := hide hr
        clear hr hz hq
        go_wp2
        go_ret
        exact ⟨by rw [HR.out]; rfl, hb02⟩
    · obtain rfl : k = n := by omega
      have hr : chkA ls = 0 := by rw [HC.out, List.drop_of_length_le (by rw [← HN.out]; exact Nat.le_refl _)]; rfl
      have HR := hide hr
      clear hr
      go_wp2
      go_ret
      exact ⟨by rw [HR.out]; rfl, hb⟩
set_option maxHeartbeats 1000000 in
set_option maxRecDepth 100000 in
theorem same_ints (a b : Option Addr) (n c m d : Nat) (l k : List Int) (w : World) (ha : IsI w a n l) (hb : IsI w b m k) (hc : n ≤ c) (hd : m ≤ d) (hn : n ≤ 100000) (hm : m ≤ 100000) :
    Calls Try.prog 9 #[.slice a n c, .slice b m d] w fun e w' => e = .returned (.bool (decide (l = k))) ∧ Below w.heap.size w w' := by
  have HA := hide ha
  have HB := hide hb
  by_cases hnm : n = m
  · subst hnm
    obtain ⟨r, hr⟩ : ∃ r, r = decide (l = k) := ⟨_, rfl⟩
    rw [← hr]
    have HRR := hide hr
    clear ha hb hr
    go_enter Try.func9, Try.ntmps9
    go_wp2_with fail
    go_loopw [13] (fun i wr => ∃ q : Nat, i = .int .i64 (q : Int) ∧ q ≤ n ∧ Hid (l.take q = k.take q) ∧ Below w.heap.size w wr) (fun i _ => n - (intOf i).toNat)
    case atStart => exact ⟨0, rfl, Nat.zero_le _, hide rfl, bl_refl w⟩
    case round =>
      obtain ⟨q, rfl, hq, HQ, hbq⟩ := hrel
      by_cases hlt : q < n
      · obtain ⟨b1, o1, x, rfl, hl1, hg1, e0⟩ := (HA.out.below hbq).at_ hlt
        obtain ⟨b2, o2, y, rfl, hl2, hg2, e2⟩ := (HB.out.below hbq).at_ hlt
        have HG1 := hide hg1
        have HG2 := hide hg2
        have hkn : (q : Int) < (n : Int) := by omega
        clear hg1 hg2
        go_wp2_with fail
        have f0 : ∀ wx, CB wr.drew wx → wx.cell? ⟨b1, o1 + q, none⟩ = some (.int .i64 x) := fun wx h => h.cell e0
        have f2 : ∀ wx, CB wr.drew wx → wx.cell? ⟨b2, o2 + q, none⟩ = some (.int .i64 y) := fun wx h => h.cell e2
        refine wp_region_K 8 (by kernel_rfl) (by kernel_rfl) (fun Q HQQ => ?_)
        simp only [List.take_succ_cons, List.take_zero, List.map_cons, List.map_nil]
        repeat
          first | apply wpS_c rfl | apply wpS_gc rfl (guard_mk rfl rfl)
          focus
            intro ev wx hC hx
            (try simp [Op.operands, Call.operands, opndS, Slot.holds] at hx)
            go_simp
            try (first | exact rfl | exact ⟨Below.refl _ _, rfl⟩)
            done
          dsimp only [setS, List.set]
        refine wpS_nil (HQQ _ fun w3 hC3 => ?_)
        simp only [closeS, List.drop_succ_cons, List.drop_zero, List.drop_nil]
        clear HQQ f0 f2
        have hb3 : Below w.heap.size w w3 := hbq.trans (hC3.below.mono hbq.size)
        by_cases hxy : x = y
        · subst hxy
          go_wp2
          go_roundw
          case rel => exact ⟨q + 1, by go_num, by omega, hide (by rw [List.take_add_one, List.take_add_one, HQ.out, HG1.out, HG2.out]), hb3⟩
          case measure => simp [intOf]; omega
        · have hr : r = false := by
            rw [HRR.out, decide_eq_false_iff_not]
            rintro rfl
            have h1 := HG1.out
            rw [HG2.out] at h1
            injection h1 with h1
            exact hxy h1.symm
          have hxy' : (x != y) = true := by simpa using hxy
          subst hr
          clear hxy
          go_wp2
          go_ret
          exact ⟨rfl, hb3⟩
      · obtain rfl : q = n := by omega
        have hr : r = true := by
          rw [HRR.out, decide_eq_true_iff]
          have := HQ.out
          rwa [List.take_of_length_le (by rw [← HA.out.1]; exact Nat.le_refl _), List.take_of_length_le (by rw [← HB.out.1]; exact Nat.le_refl _)] at this
        subst hr
        go_wp2
        go_ret
        exact ⟨rfl, hbq⟩
  · have hr : decide (l = k) = false := by
      rw [decide_eq_false_iff_not]
      rintro rfl
      exact hnm (ha.1.trans hb.1.symm)
    rw [hr]
    have hnm' : ((n : Int) != (m : Int)) = true := by rw [bne_iff_ne]; omega
    clear ha hb hr hnm
    go_enter Try.func9, Try.ntmps9
    go_wp2
    go_ret
    exact ⟨rfl, bl_refl w⟩
end Go.Proofs.Ytbicpnhgokngeaa
