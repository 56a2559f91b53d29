/- The walks of the checks of lists. -/
import Derived.Test.YtbicpnhgokngeaaProg
import Derived.Test.YtbicpnhgokngeaaLM
import Derived.Test.YtbicpnhgokngeaaKeep
import Derived.Test.YtbicpnhgokngeaaRegF
namespace Go.Proofs.Ytbicpnhgokngeaa
open Go.RowKit
set_option linter.unusedVariables false
set_option linter.unusedSimpArgs false
def iv (x : Int) : Value := .int .i64 x
/-- A slice of ints, read. -/
def IsI (w : World) (a : Option Addr) (n : Nat) (l : List Int) : Prop := n = l.length ∧ Rd w a (l.map iv)
theorem IsI.below {w w' : World} {a : Option Addr} {n : Nat} {l : List Int} (h : IsI w a n l) (hb : Below w.heap.size w w') : IsI w' a n l := ⟨h.1, h.2.below hb⟩
theorem IsI.at_ {w : World} {a : Option Addr} {n : Nat} {l : List Int} (h : IsI w a n l) {k : Nat} (hk : k < n) :
    ∃ b o x, a = some ⟨b, o, none⟩ ∧ b < w.heap.size ∧ l[k]? = some x ∧ w.cell? ⟨b, o + k, none⟩ = some (.int .i64 x) := by
  have hc : l[k]? = some (l[k]'(by have := h.1; omega)) := List.getElem?_eq_getElem _
  obtain ⟨b, o, ha, hb, e⟩ := h.2.at_ (k := k) (v := iv _) (by rw [List.getElem?_map, hc]; rfl)
  exact ⟨b, o, _, ha, hb, hc, e⟩
theorem IsI.cell {w : World} {b o : Nat} {n : Nat} {l : List Int} (h : IsI w (some ⟨b, o, none⟩) n l) {k : Nat} {x : Int} (hk : l[k]? = some x) : w.cell? ⟨b, o + k, none⟩ = some (.int .i64 x) := by
  obtain ⟨b', o', y, he, _, hy, hc⟩ := h.at_ (k := k) (by have := (List.getElem?_eq_some_iff.1 hk).1; have := h.1; omega)
  injection he with he
  injection he with q1 q2
  subst q1 q2
  rw [hk] at hy
  injection hy with hy
  rw [hy]; exact hc
theorem drop_at {l : List Int} {k : Nat} {x : Int} (h : l[k]? = some x) : l.drop k = x :: l.drop (k + 1) := by
  obtain ⟨h1, h2⟩ := List.getElem?_eq_some_iff.1 h
  rw [← h2, List.drop_eq_getElem_cons h1]
theorem last_take {l : List Int} {k : Nat} {x : Int} (h : l[k]? = some x) : (l.take (k + 1)).getLast? = some x := by
  rw [List.take_add_one, h]; simp
theorem chkS_cons (p : Option Int) (x : Int) (l : List Int) : chkS p (x :: l) = if x < 0 ∨ 2147483647 < x then 8 else if geP p x = true then 6 else chkS (some x) l := rfl
set_option maxHeartbeats 1000000 in
set_option maxRecDepth 100000 in
theorem check_any (a : Option Addr) (n cap : Nat) (l : List Int) (w : World) (h : IsI w a n l) (hc : n ≤ cap) (hcm : cap ≤ maxLen) :
    Calls Try.prog 5 #[.slice a n cap] w fun e w' => e = .returned (.int .i64 ((chkL l : Nat) : Int)) ∧ Below w.heap.size w w' := by
  have HI := hide h
  have HN := hide h.1
  unfold maxLen at hcm
  clear h
  by_cases h4 : 4096 < n
  · have h4' : (4096 : Int) < (n : Int) := by omega
    have hr : chkL l = 2 := by unfold chkL; rw [if_pos (by rw [← HN.out]; exact h4)]
    rw [hr]
    clear hr
    go_enter Try.func5, Try.ntmps5
    go_wp2
    go_ret
    exact ⟨rfl, bl_refl w⟩
  have h4' : ¬ (4096 : Int) < (n : Int) := by omega
  have hr : chkL l = chkS none l := by unfold chkL; rw [if_neg (by rw [← HN.out]; exact h4)]
  have HRR := hide hr
  clear hr h4
  go_enter Try.func5, Try.ntmps5
  go_wp2_with fail
  go_loopw [10] (fun i wr => ∃ k : Nat, i = .int .i64 (k : Int) ∧ k ≤ n ∧ Hid (chkL l = chkS (l.take k).getLast? (l.drop k)) ∧ Below w.heap.size w wr) (fun i _ => n - (intOf i).toNat)
  case atStart => exact ⟨0, rfl, Nat.zero_le _, hide (by rw [HRR.out]; rfl), bl_refl w⟩
  case round =>
    obtain ⟨k, rfl, hk, HC, hb⟩ := hrel
    by_cases hlt : k < n
    · obtain ⟨b, o, x, rfl, hbl, hx, e0⟩ := (HI.out.below hb).at_ hlt
      have hkn : (k : Int) < (n : Int) := by omega
      have hd := drop_at hx
      have HX := hide hx
      have HD := hide hd
      clear hx hd hlt
      by_cases h1 : x < 0
      · have hr : chkL l = 8 := by rw [HC.out, HD.out]; unfold chkS; rw [if_pos (.inl h1)]
        have HR := hide hr
        clear hr
        go_wp2
        go_ret
        exact ⟨by rw [HR.out]; rfl, hb⟩
      by_cases h2 : 2147483647 < x
      · have hr : chkL l = 8 := by rw [HC.out, HD.out]; unfold chkS; rw [if_pos (.inr h2)]
        have HR := hide hr
        clear hr
        go_wp2
        go_ret
        exact ⟨by rw [HR.out]; rfl, hb⟩
      have hst : chkL l = if geP (l.take k).getLast? x = true then 6 else chkS (some x) (l.drop (k + 1)) := by
        rw [HC.out, HD.out]
        rw [chkS_cons, if_neg (by omega)]
      have hnext : (l.take (k + 1)).getLast? = some x := last_take HX.out
      have HST := hide hst
      have HNX := hide hnext
      clear hst hnext
      rcases k with _ | k
      · have hr : chkL l = chkS (l.take (0 + 1)).getLast? (l.drop (0 + 1)) := by rw [HST.out, HNX.out]; rfl
        have e00 : wr.cell? ⟨b, o, none⟩ = some (.int .i64 x) := e0
        have hn0 : 0 < n := by omega
        have HR := hide hr
        clear hr
        have hb3 := hb
        have hk1 : 1 ≤ n := by omega
        go_wp2
        go_roundw
        case rel => exact ⟨1, rfl, hk1, HR, hb3⟩
        case measure => simp [intOf]; omega
      · obtain ⟨b', o', y, he, _, hy, e1⟩ := (HI.out.below hb).at_ (k := k) (by omega)
        injection he with he
        injection he with q1 q2
        subst q1 q2
        have hk0 : (0 : Int) < ((k + 1 : Nat) : Int) := by omega
        have hks : ((k + 1 : Nat) : Int) - 1 = (k : Int) := by omega
        have hkn1 : (k : Int) < (n : Int) := by omega
        have hge : geP (l.take (k + 1)).getLast? x = decide (x ≤ y) := by rw [last_take hy]; rfl
        have HGE := hide hge
        clear hge hy
        by_cases h3 : x ≤ y
        · have hr : chkL l = 6 := by rw [HST.out, HGE.out, if_pos (by simpa using h3)]
          have HR := hide hr
          clear hr
          have hb3 := hb
          go_wp2
          go_ret
          exact ⟨by rw [HR.out]; rfl, hb3⟩
        · have h3' : y < x := by omega
          have hr : chkL l = chkS (l.take (k + 1 + 1)).getLast? (l.drop (k + 1 + 1)) := by rw [HST.out, HGE.out, if_neg (by simpa using h3'), HNX.out]
          have HR := hide hr
          clear hr
          have hb3 := hb
          go_wp2
          go_roundw
          case rel => exact ⟨k + 1 + 1, by go_num, by omega, HR, hb3⟩
          case measure => simp [intOf]; omega
    · obtain rfl : k = n := by omega
      have hr : chkL l = 0 := by rw [HC.out, List.drop_of_length_le (by rw [← HN.out]; exact Nat.le_refl _)]; rfl
      have HR := hide hr
      clear hr
      go_wp2
      go_ret
      exact ⟨by rw [HR.out]; rfl, hb⟩
end Go.Proofs.Ytbicpnhgokngeaa
