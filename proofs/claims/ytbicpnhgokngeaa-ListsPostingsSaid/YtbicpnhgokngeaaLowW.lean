/- The walk of lowest. -/
import Derived.Test.YtbicpnhgokngeaaPutW
namespace Go.Proofs.Ytbicpnhgokngeaa
open Go.RowKit
set_option linter.unusedVariables false
set_option linter.unusedSimpArgs false

/-- The n lowest bits of v, the greatest first. -/
def lowB (v : Nat) : Nat → List Bool
  | 0 => []
  | n + 1 => decide (v / 2 ^ n % 2 = 1) :: lowB v n
theorem lowB_length (v n : Nat) : (lowB v n).length = n := by
  induction n with
  | zero => rfl
  | succ n ih => simp [lowB, ih]
set_option maxHeartbeats 1000000 in
set_option maxRecDepth 100000 in
theorem low_any (base g : Nat) (r : Option Nat) (l : List Bool) (v n : Int) (vn nn : Nat) (w : World) (hv : v = vn) (hn : n = nn) (hvb : vn < 2 ^ 64) (hn64 : nn ≤ 64) (hw : WrS w base g r l) (hl : l.length < 90000000) (hbs : base ≤ w.heap.size) :
    Calls Try.prog 25 #[.pointer (some ⟨g, 0, none⟩), .int .u64 v, .int .i64 n] w fun e w' => e = .returned (.tuple #[]) ∧ WStep base g r w (l ++ lowB vn nn) w' := by
  subst hv hn
  have HW := hide hw
  have HB := hide hvb
  have HL := hide hl
  clear hw hvb hl
  go_enter Try.func25, Try.ntmps25
  go_wp2
  go_loopw [6] (fun i wr => ∃ k : Nat, i = .int .i64 ((k : Int) - 1) ∧ k ≤ nn ∧ ∃ pre, pre ++ lowB vn k = lowB vn nn ∧ WStep base g r w (l ++ pre) wr) (fun i _ => (intOf i + 1).toNat)
  case atStart => exact ⟨nn, rfl, Nat.le_refl _, [], rfl, by simpa using WStep.refl HW.out⟩
  case round =>
    obtain ⟨k, rfl, hk, pre, hpre, hws⟩ := hrel
    have HP := hide hpre
    have HS := hide hws
    clear hpre hws
    rcases k with _ | k
    · go_wp2
      go_end0
      obtain ⟨r', h⟩ := HS.out
      have hp := HP.out
      simp [lowB] at hp
      rw [hp] at h
      exact ⟨rfl, r', h⟩
    · have e1 : ((k + 1 : Nat) : Int) - 1 = k := by omega
      simp only [e1]
      have hk64 : (k : Int) < 64 := by omega
      go_wp2_with fail
      refine wp_region_K 6 (by kernel_rfl) (by kernel_rfl) (fun Q HQ => ?_)
      simp only [List.take_succ_cons, List.take_zero, List.map_cons, List.map_nil]
      repeat
        first | apply wpS_c rfl | apply wpS_gc rfl (guard_mk rfl rfl)
        focus
          intro ev wx hC hx
          (try simp [Op.operands, Call.operands, opndS, Slot.holds] at hx)
          go_simp
          try (first | exact rfl | exact ⟨Below.refl _ _, rfl⟩)
          done
        dsimp only [setS, List.set]
      refine wpS_nil (HQ _ fun w3 hC3 => ?_)
      simp only [closeS, List.drop_succ_cons, List.drop_zero, List.drop_nil]
      clear HQ
      have hb3 : Below wr.heap.size wr w3 := hC3.below
      obtain ⟨r1, hs1, hc1, hr1⟩ := HS.out
      have hs1' := hs1.below hb3
      have hc1' := hc1.bel hb3
      have hsz := hc1'.size
      have hll : (l ++ pre).length < 100000000 := by
        have := congrArg List.length HP.out
        simp [lowB_length] at this
        have := HL.out
        simp; omega
      have hsh : (vn : Int) / 2 ^ k = ((vn / 2 ^ k : Nat) : Int) := by simp
      have HSH := hide hsh
      clear hsh
      go_wp2_with fail
      refine (put_any base g r1 (l ++ pre) _ (vn / 2 ^ k) w3 (HSH.out) (Nat.lt_of_le_of_lt (Nat.div_le_self _ _) HB.out) hs1' hll (Nat.le_trans hbs hsz)).mono ?_
      rintro e w4 ⟨rfl, hst⟩
      have HST := hide hst
      have HC1 := hide hc1'
      have HR1 := hide hr1
      clear hst hc1' hc1 hs1 hs1' hr1 hll
      go_wp2
      go_roundw
      case rel =>
        refine ⟨k, rfl, by omega, pre ++ [decide (vn / 2 ^ k % 2 = 1)], ?_, ?_⟩
        · rw [← HP.out]; simp [lowB]
        · rw [← List.append_assoc]
          exact WStep.trans HC1.out HR1.out HST.out
      case measure => simp [intOf]
end Go.Proofs.Ytbicpnhgokngeaa
