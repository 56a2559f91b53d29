/- The walk of Top. -/
import Derived.Test.YtnflffhmnbjelaaWrW
namespace Go.Proofs.Ytnflffhmnbjelaa
open Go.RowKit
set_option linter.unusedVariables false
set_option linter.unusedSimpArgs false
set_option maxRecDepth 100000 in
theorem top_any (x : Int) (v : Nat) (w : World) (hx : x = v) (hv : v < 2 ^ 64) (h0 : v ≠ 0) :
    Calls Try.prog 56 #[.int .u64 x] w fun e w' => e = .returned (.int .i64 ((Lib.bitLen v - 1 : Nat) : Int)) ∧ w = w' := by
  subst hx
  have HV := hide hv
  clear hv
  have e0 : (0 : Int) = ((0 : Nat) : Int) := rfl
  go_enter Try.func56, Try.ntmps56
  go_wp2
  go_loop [0, 3] (fun y i => ∃ (k u : Nat), y = .int .u64 (u : Int) ∧ i = .int .i64 (k : Int) ∧ u ≠ 0 ∧ u < 2 ^ 64 ∧ k ≤ 64 ∧ Lib.bitLen u + k = Lib.bitLen v) (fun y _ => (intOf y).toNat)
  case atStart => exact ⟨0, v, rfl, rfl, h0, HV.out, by omega, rfl⟩
  case round =>
    obtain ⟨k, u, rfl, rfl, hu0, hu, hk, hd⟩ := hrel
    have HU := hide hu
    have HD := hide hd
    have hk2 : k < 64 := by have := bl_pos u hu0 hu; have := bl_64 v HV.out; omega
    clear hu hd e0
    by_cases h1 : 1 < u
    · have e1 : (u : Int) / 2 = ((u / 2 : Nat) : Int) := by omega
      have HE := hide e1
      have e2 : IntKind.u64.wrap ((u : Int) / 2) = (u : Int) / 2 := by
        have := HU.out
        rw [IntKind.wrap_u64]; omega
      clear e1
      go_wp2
      go_round
      case rel => exact ⟨k + 1, u / 2, by rw [← HE.out], by go_num, by omega, by have := HU.out; omega, by omega, by have := bl_pos u hu0 HU.out; have := HD.out; omega⟩
      case measure => simp [intOf]; omega
    · obtain rfl : u = 1 := by omega
      go_wp2
      go_ret
      have := HD.out
      rw [show Lib.bitLen 1 = 1 from rfl] at this
      exact ⟨ret_int (by omega), rfl⟩

end Go.Proofs.Ytnflffhmnbjelaa
