/- Len64 (the shelf's contract, laid) and the bits of numbers. -/
import Derived.Shelf.Strconv.Itoa0
import Derived.Test.YtnflffhmnbjelaaLowW
namespace Go.Proofs.Ytnflffhmnbjelaa
open Go.Shelf in
def Try.lays129_ren : Go.Shelf.Ren := ⟨fun | 129 => 50 | n => n, fun | 53 => 61 | 3 => 3 | 4 => 4 | 46 => 81 | 5 => 5 | 9 => 9 | n => n, fun | n => n⟩
open Go.Shelf in
theorem Try.lays129 : Go.Proofs.Lays.n129 Try.prog Try.lays129_ren := {
  mixed := by kernel_rfl
  f129 := Try.func50.trans (congrArg some (by kernel_rfl))
  t3 := Try.underlying3
  a3 := Try.isAgg3
  z3 := Try.sizeOf3
  v3 := Try.zeroValue3
  t4 := Try.underlying4
  a4 := Try.isAgg4
  z4 := Try.sizeOf4
  v4 := Try.zeroValue4
  t5 := Try.underlying5
  a5 := Try.isAgg5
  z5 := Try.sizeOf5
  v5 := Try.zeroValue5
  t9 := Try.underlying9
  a9 := Try.isAgg9
  z9 := Try.sizeOf9
  v9 := Try.zeroValue9
  t46 := Try.underlying81
  a46 := Try.isAgg81
  z46 := Try.sizeOf81
  v46 := Try.zeroValue81
  t53 := Try.underlying61
  a53 := Try.isAgg61
  z53 := Try.sizeOf61
  v53 := Try.zeroValue61 }
open Go.RowKit
set_option linter.unusedVariables false
set_option linter.unusedSimpArgs false
theorem len64_any (x : Int) (xn : Nat) (w : World) (hx : x = xn) (h : xn < 2 ^ 64) :
    Calls Try.prog 50 #[.int .u64 x] w fun e w' => e = .returned (.int .i64 ((Lib.bitLen xn : Nat) : Int)) ∧ w = w' := by
  subst hx
  have := Go.Proofs.Any.bits_Len64 Try.lays129 (xn : Int) w (by omega) (by omega)
  exact this.mono (fun e w' h => ⟨h.1, h.2.symm⟩)

/-! ### The plain law of bits -/
theorem bl_zero : Lib.bitLen 0 = 0 := rfl
theorem bl_pos (v : Nat) (h : v ≠ 0) (hv : v < 2 ^ 64) : Lib.bitLen v = Lib.bitLen (v / 2) + 1 := by rw [Lib.bitLen_half v h hv]; omega
theorem bl_bounds (v : Nat) (hv : v < 2 ^ 64) : v < 2 ^ Lib.bitLen v ∧ (v ≠ 0 → 2 ^ (Lib.bitLen v - 1) ≤ v) := by
  induction v using Nat.strongRecOn with
  | ind v ih =>
    by_cases h : v = 0
    · subst h; exact ⟨by decide, fun h => absurd rfl h⟩
    · obtain ⟨h1, h2⟩ := ih (v / 2) (by omega) (by omega)
      rw [bl_pos v h hv]
      refine ⟨by rw [Nat.pow_succ]; omega, fun _ => ?_⟩
      rw [Nat.add_sub_cancel]
      by_cases h3 : v / 2 = 0
      · rw [h3, bl_zero]; omega
      · have := h2 h3
        have h4 : Lib.bitLen (v / 2) ≠ 0 := by rw [bl_pos _ h3 (by omega)]; omega
        have h5 : 2 ^ Lib.bitLen (v / 2) = 2 ^ (Lib.bitLen (v / 2) - 1) * 2 := by rw [← Nat.pow_succ]; congr 1; omega
        omega
theorem bl_le (v n : Nat) (hv : v < 2 ^ 64) : Lib.bitLen v ≤ n ↔ v < 2 ^ n := by
  obtain ⟨h1, h2⟩ := bl_bounds v hv
  constructor
  · intro h; exact Nat.lt_of_lt_of_le h1 (Nat.pow_le_pow_right (by decide) h)
  · intro h
    by_cases h0 : v = 0
    · subst h0; rw [bl_zero]; omega
    · have h3 := h2 h0
      have : 2 ^ (Lib.bitLen v - 1) < 2 ^ n := Nat.lt_of_le_of_lt h3 h
      have := (Nat.pow_lt_pow_iff_right (a := 2) (by decide)).1 this
      omega
theorem bl_64 (v : Nat) (hv : v < 2 ^ 64) : Lib.bitLen v ≤ 64 := (bl_le v 64 hv).2 hv

/-- What the calls of a Writer append; none: refused. -/
def wBits (v : Nat) (n : Int) : Option (List Bool) := if 0 ≤ n ∧ n ≤ 64 ∧ (Lib.bitLen v : Int) ≤ n then some (lowB v n.toNat) else none
def wUnary (n : Int) : Option (List Bool) := if 0 ≤ n ∧ n ≤ 4096 then some (List.replicate n.toNat false ++ [true]) else none
def gamB (v : Nat) : List Bool := List.replicate (Lib.bitLen v - 1) false ++ lowB v (Lib.bitLen v)
def wGamma (v : Nat) : Option (List Bool) := if v = 0 then none else some (gamB v)
def wDelta (v : Nat) : Option (List Bool) := if v = 0 then none else some (gamB (Lib.bitLen v) ++ lowB v (Lib.bitLen v - 1))
def cod (o : Option (List Bool)) : Int := if o.isSome then 0 else 1
theorem lowB_zero (n : Nat) : lowB 0 n = List.replicate n false := by
  induction n with
  | zero => rfl
  | succ n ih => simp [lowB, ih, List.replicate_succ]
end Go.Proofs.Ytnflffhmnbjelaa
