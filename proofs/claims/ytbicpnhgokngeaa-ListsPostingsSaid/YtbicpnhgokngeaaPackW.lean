/- The walk of the reference's Pack. -/
import Derived.Test.YtbicpnhgokngeaaRefW
import Derived.Test.YtbicpnhgokngeaaSlots
namespace Go.Proofs.Ytbicpnhgokngeaa
open Go.RowKit
set_option linter.unusedVariables false
set_option linter.unusedSimpArgs false
def bytesTo (l : List Bool) (k m : Nat) : List UInt8 := (List.range m).map (byteAt (l.take k))
theorem bytesTo_zero (l : List Bool) (m : Nat) : bytesTo l 0 m = List.replicate m 0 := by
  unfold bytesTo
  rw [List.take_zero]
  apply List.ext_getElem
  · simp
  · intro i h1 h2
    simp only [List.getElem_map, List.getElem_range, List.getElem_replicate]
    exact byteAt_none [] i (by simp)
theorem bytesTo_all (l : List Bool) : bytesTo l l.length (nby l.length) = packL l := by simp [bytesTo, packL]
theorem bytesTo_get (l : List Bool) (k m j : Nat) (h : j < m) : (bytesTo l k m)[j]? = some (byteAt (l.take k) j) := by simp [bytesTo, h]
theorem bytesTo_step (l : List Bool) (k m : Nat) (x : Bool) (hx : l[k]? = some x) (hq : k / 8 < m) :
    bytesTo l (k + 1) m = if x then (bytesTo l k m).set (k / 8) (byteAt (l.take k) (k / 8) ||| bitv (k % 8)) else bytesTo l k m := by
  have hk : k < l.length := (List.getElem?_eq_some_iff.1 hx).1
  have hl : (l.take k).length = k := by simp; omega
  have ht : l.take (k + 1) = l.take k ++ [x] := by rw [List.take_add_one, hx]; rfl
  have hat := byteAt_at (l.take k) x
  rw [hl] at hat
  apply List.ext_getElem?
  intro i
  rcases Nat.lt_or_ge i m with h | h
  · rw [bytesTo_get _ _ _ _ h, ht]
    by_cases hi : i = k / 8
    · subst hi
      rw [hat]
      cases x
      · simp [bytesTo_get _ _ _ _ h]
      · simp [bytesTo, h]
    · rw [byteAt_far (l.take k) x i (by rw [hl]; exact hi)]
      cases x
      · simp [bytesTo_get _ _ _ _ h]
      · simp only [if_true]
        rw [List.getElem?_set_ne (by omega), bytesTo_get _ _ _ _ h]
  · rw [List.getElem?_eq_none (by simp [bytesTo]; exact h)]
    cases x
    · simp only [Bool.false_eq_true, if_false]
      rw [List.getElem?_eq_none (by simp [bytesTo]; exact h)]
    · simp only [if_true]
      rw [List.getElem?_eq_none (by simp [bytesTo]; exact h)]
end Go.Proofs.Ytbicpnhgokngeaa
