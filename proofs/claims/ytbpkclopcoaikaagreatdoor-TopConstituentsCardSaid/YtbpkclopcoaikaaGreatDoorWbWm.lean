/- The walks of bracket's isAncestor and check, at the nodes of a valid corpus. -/
import Derived.Test.YtbpkclopcoaikaaGreatDoorWAm
namespace Go.Proofs.YtbpkclopcoaikaaGreatDoor
open Go.RowKit
set_option linter.unusedVariables false
set_option linter.unusedSimpArgs false
set_option maxHeartbeats 4000000 in
set_option maxRecDepth 100000 in
theorem isanc_any (a : Option Addr) (n cp : Nat) (l : List Nd) (p q : Int) (w : World) (h : IsN w a n l) (hn : n ≤ 4096) (hp : Preo (l.map Nd.p)) (hq : -1 ≤ q) (hqn : q < n)
    (hpq : p = -1 ∨ ∃ k m : Nat, p = (k : Int) ∧ q = (m : Int) ∧ AncS (l.map Nd.p) k m) :
    Calls Tryz.prog 51 #[.slice a n cp, .int .i64 p, .int .i64 q] w fun e w' => e = .returned (.bool true) ∧ w = w' := by
  have HI := hide h
  have HP := hide hp
  have HQ0 := hide hpq
  clear h hp hpq
  go_enter Tryz.func51, Tryz.ntmps51
  go_wp2_with fail
  go_loopw [2] (fun kv wr => ∃ q : Int, kv = .int .i64 q ∧ -1 ≤ q ∧ q < n ∧ Hid (p = -1 ∨ ∃ k m : Nat, p = (k : Int) ∧ q = (m : Int) ∧ AncS (l.map Nd.p) k m) ∧ Hid (w = wr)) (fun kv _ => (intOf kv + 1).toNat)
  case atStart => exact ⟨_, rfl, hq, hqn, HQ0, hide rfl⟩
  case round =>
    obtain ⟨q', rfl, hq0, hq1, HQ, HW⟩ := hrel
    obtain rfl := HW.out
    by_cases hneg : q' < 0
    · have hn0 : ¬ 0 ≤ q' := by omega
      have hqm : q' = -1 := by omega
      have hpm : p = -1 := by
        rcases HQ.out with h | ⟨k, m, h1, h2, h3⟩
        · exact h
        · omega
      subst hqm hpm
      go_wp2
      go_ret
      exact ⟨rfl, rfl⟩
    · obtain ⟨m, rfl⟩ := Int.eq_ofNat_of_zero_le (show 0 ≤ q' by omega)
      have hm0 : (0 : Int) ≤ (m : Int) := by omega
      have hmn : (m : Int) < (n : Int) := hq1
      by_cases hpm : (m : Int) = p
      · have hne : ((m : Int) != p) = false := by simp [hpm]
        have heq : ((m : Int) == p) = true := by simp [hpm]
        go_wp2
        go_ret
        exact ⟨rfl, rfl⟩
      · have hne : ((m : Int) != p) = true := by simp [hpm]
        obtain ⟨b, o, ⟨yl, yb, ye, yp⟩, rfl, hb, hy, f0, f1, f2, f3⟩ := HI.out.at_ (show m < n by omega)
        simp only at f0 f1 f2 f3
        have hyp : (l.map Nd.p)[m]? = some yp := by rw [List.getElem?_map, hy]; rfl
        have hlt := preo_lt HP.out (m + 1) m yp (by omega) hyp
        have HQ2 : Hid (p = -1 ∨ ∃ k m : Nat, p = (k : Int) ∧ yp = (m : Int) ∧ AncS (l.map Nd.p) k m) := hide (by
          rcases HQ.out with h | ⟨k, m', h1, h2, h3⟩
          · exact .inl h
          · right
            obtain rfl : m = m' := by omega
            rcases h3 with rfl | h3
            · exact absurd h1.symm hpm
            · cases h3 with
              | one hp' => unfold Par at hp'; rw [hyp] at hp'; injection hp' with hp'; exact ⟨k, k, h1, hp', .inl rfl⟩
              | up hp' h4 => rename_i j; unfold Par at hp'; rw [hyp] at hp'; injection hp' with hp'; exact ⟨k, j, h1, hp', .inr h4⟩)
        clear hy hyp
        go_wp2
        go_roundw
        case rel => exact ⟨yp, rfl, by omega, by omega, HQ2, by first | exact hide rfl | exact hide trivial⟩
        case measure => simp [intOf]; omega
end Go.Proofs.YtbpkclopcoaikaaGreatDoor
