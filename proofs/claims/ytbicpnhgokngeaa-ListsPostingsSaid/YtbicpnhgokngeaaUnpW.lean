/- Bits read from bytes; the walk of the reference's Unpack. -/
import Derived.Test.YtbicpnhgokngeaaPackW
namespace Go.Proofs.Ytbicpnhgokngeaa
open Go.RowKit
set_option linter.unusedVariables false
set_option linter.unusedSimpArgs false
def bitAt (p : List UInt8) (i : Nat) : Bool := (p.getD (i / 8) 0 &&& bitv (i % 8)) != 0
theorem B8_and (x : Nat → Bool) (k : Nat) (hk : k < 8) : ((B8 x &&& bitv k) != 0) = x k := by
  have h : ∀ b0 b1 b2 b3 b4 b5 b6 b7 : Bool, ∀ k : Fin 8, ((UInt8.ofNat (b0.toNat * 128 + b1.toNat * 64 + b2.toNat * 32 + b3.toNat * 16 + b4.toNat * 8 + b5.toNat * 4 + b6.toNat * 2 + b7.toNat) &&& bitv k.val) != 0) = [b0, b1, b2, b3, b4, b5, b6, b7].getD k.val false := by decide +kernel
  have := h (x 0) (x 1) (x 2) (x 3) (x 4) (x 5) (x 6) (x 7) ⟨k, hk⟩
  unfold B8
  rw [this]
  match k, hk with
  | 0, _ => rfl
  | 1, _ => rfl
  | 2, _ => rfl
  | 3, _ => rfl
  | 4, _ => rfl
  | 5, _ => rfl
  | 6, _ => rfl
  | 7, _ => rfl
def unpackL (p : List UInt8) (n : Nat) : List Bool := (List.range n).map (bitAt p)
theorem unpackL_length (p : List UInt8) (n : Nat) : (unpackL p n).length = n := by simp [unpackL]
theorem unpackL_get (p : List UInt8) (n i : Nat) (h : i < n) : (unpackL p n)[i]? = some (bitAt p i) := by simp [unpackL, h]
theorem unpackL_succ (p : List UInt8) (n : Nat) : unpackL p (n + 1) = unpackL p n ++ [bitAt p n] := by simp [unpackL, List.range_succ]
theorem unpack_pack (l : List Bool) : unpackL (packL l) l.length = l := by
  apply List.ext_getElem?
  intro i
  rcases Nat.lt_or_ge i l.length with h | h
  · rw [unpackL_get _ _ _ h]
    have hq : i / 8 < nby l.length := by unfold nby; omega
    unfold bitAt
    rw [show (packL l).getD (i / 8) 0 = byteAt l (i / 8) by simp [packL, List.getD, hq]]
    unfold byteAt
    rw [B8_and _ _ (by omega), show 8 * (i / 8) + i % 8 = i by omega]
    simp [List.getD, List.getElem?_eq_getElem h]
  · rw [List.getElem?_eq_none (by simpa [unpackL] using h), List.getElem?_eq_none h]
end Go.Proofs.Ytbicpnhgokngeaa
