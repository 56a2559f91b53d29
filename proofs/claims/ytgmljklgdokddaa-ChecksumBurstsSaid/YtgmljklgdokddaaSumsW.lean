/- The walks of awake and of the law ChecksumSums. -/
import Derived.Test.YtgmljklgdokddaaSealW
namespace Go.Proofs.Ytgmljklgdokddaa
open Go.RowKit
set_option linter.unusedVariables false
set_option linter.unusedSimpArgs false

def digits9 : List UInt8 := [49, 50, 51, 52, 53, 54, 55, 56, 57]
theorem crc_digits : ((crc digits9).toNat : Int) = 3808858755 := by decide +kernel
theorem crc_nil : crc [] = 0#32 := by decide

set_option maxRecDepth 100000 in
theorem awake_any (w : World) : Calls Try.prog 13 #[] w fun e w' => e = .returned (.bool true) ∧ Below w.heap.size w w' := by
  have kc := fun (w : World) (C : Array Value) (n c : Nat) => Lib.run_convert_bytes_const (P := Try.prog) w 22 5 C n c Try.underlying22 Try.underlying5
  go_enter Try.func13, Try.ntmps13
  go_wp2_with fail
  refine (sum_any _ _ _ digits9 _ rfl (by decide) (rd_lit w _ _ _)).mono ?_
  rintro e w1 ⟨rfl, hb1⟩
  rw [crc_digits]
  go_wp2_with fail
  refine (sum_any _ _ _ [] _ rfl (by decide) (Rd.nil _ _)).mono ?_
  rintro e w2 ⟨rfl, hb2⟩
  rw [crc_nil]
  go_wp2_with fail
  refine (seal_any _ _ _ [] _ rfl (by decide) (by decide) (fun _ => rfl) (Rd.nil _ _)).mono ?_
  rintro e w3 ⟨v, rfl, hown, hb3⟩
  obtain ⟨_, a, c, rfl, _, hrd, _⟩ := own_form hown
  have k1 := run_bytes_str (P := Try.prog) w3 22 9 5 a (0 + 4) c [0, 0, 0, 0] Try.underlying22 Try.underlying5 Try.underlying9 rfl hrd
  go_wp2_with fail
  go_ret
  exact ⟨ret_bool (by decide), bl_trans (bl_trans (bl_trans (bl_alloc (bl_refl w) _) hb1) hb2) hb3⟩

namespace checksumSums
theorem walk (a0 : Option Addr) (len0 cap0 : Nat) (z0 : List Int) (w : World) (w0 : IsRow .u8 w a0 len0 cap0 z0) :
    Calls Try.prog 3 #[.slice a0 len0 cap0] w fun e w' => e = .returned (.bool true) ∧ Below w.heap.size w w' := by
  obtain ⟨l, hl, hr, hc, hm, hn⟩ := w0.bytes
  have HL := hide hl.symm
  have HR := hide hr
  have HN := hide hn
  unfold maxLen at hm
  clear hl hr hn w0
  by_cases h2 : 2000 < len0
  · go_enter Try.func3, Try.ntmps3
    go_wp2
    go_ret
    exact ⟨rfl, bl_refl _⟩
  · go_enter Try.func3, Try.ntmps3
    go_wp2_with fail
    refine (sum_any _ _ _ l _ HL.out (by omega) HR.out).mono ?_
    rintro e w1 ⟨rfl, hb1⟩
    go_wp2_with fail
    refine (rsum_any _ _ _ l _ HL.out (by omega) (HR.out.below hb1)).mono ?_
    rintro e w2 ⟨rfl, rfl⟩
    go_wp2_with fail
    refine (awake_any _).mono ?_
    rintro e w3 ⟨rfl, hb3⟩
    go_wp2_with fail
    go_ret
    exact ⟨rfl, bl_trans hb1 hb3⟩
end checksumSums
end Go.Proofs.Ytgmljklgdokddaa
