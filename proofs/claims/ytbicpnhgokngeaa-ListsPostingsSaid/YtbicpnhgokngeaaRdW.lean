/- The walks of the Reader. -/
import Derived.Test.YtbicpnhgokngeaaRdM
namespace Go.Proofs.Ytbicpnhgokngeaa
open Go.RowKit
set_option linter.unusedVariables false
set_option linter.unusedSimpArgs false
theorem bit_num (c : UInt8) (s : Nat) (h : s < 8) : c.toNat / 2 ^ (7 - s) % 2 = ((c &&& bitv s) != 0).toNat := by
  have h1 : ∀ (c : Fin 256) (s : Fin 8), c.val / 2 ^ (7 - s.val) % 2 = ((UInt8.ofNat c.val &&& bitv s.val) != 0).toNat := by decide +kernel
  have := h1 ⟨c.toNat, c.toNat_lt⟩ ⟨s, h⟩
  simpa using this
set_option maxRecDepth 100000 in
theorem bit_any (base g : Nat) (L : List Bool) (pos at_ : Nat) (a : Int) (x : Bool) (w : World) (hs : RdS w base g L pos) (ha : a = at_) (hx : L[at_]? = some x) :
    Calls Try.prog 38 #[.pointer (some ⟨g, 0, none⟩), .int .i64 a] w fun e w' => e = .returned (.int .u64 (x.toNat : Int)) ∧ w = w' := by
  subst ha
  obtain ⟨A, m, c, p, h1, h2, h3, h4, h5, h6, h7, h8, h9⟩ := hs
  have hlt : at_ < L.length := (List.getElem?_eq_some_iff.1 hx).1
  obtain ⟨q, hq⟩ : ∃ q, q = at_ / 8 := ⟨_, rfl⟩
  obtain ⟨s, hsq⟩ : ∃ s, s = at_ % 8 := ⟨_, rfl⟩
  have hs8 : s < 8 := by omega
  have hqm : q < m := by omega
  have hqi : (q : Int) < m := by omega
  have c0 : w.cell? ⟨g, 0, none⟩ = some (.slice A m c) := cell_of_row w g 0 _ _ _ h1
  obtain ⟨b, o, cc, rfl, hb, hcc, mq⟩ := h3.at_ (k := q) (by rw [← h4]; exact hqm)
  have hbit : x = ((cc &&& bitv s) != 0) := by
    have h10 := unpackL_get p L.length at_ hlt
    rw [h6, hx] at h10
    injection h10 with h10
    rw [h10, bitAt, ← hq, ← hsq]
    simp [List.getD, hcc]
  have e8 : (at_ : Int) / 2 ^ 3 = (q : Int) := by omega
  have e8' : (at_ : Int) / 8 = (q : Int) := by omega
  have e7 : bits .and .i64 (at_ : Int) 7 = (s : Int) := by rw [and7 at_ (by omega), ← hsq]
  obtain ⟨t, ht⟩ : ∃ t, t = 7 - s := ⟨_, rfl⟩
  have et : (7 : Int) - (s : Int) = (t : Int) := by omega
  have hcl := cc.toNat_lt
  obtain ⟨y, hy⟩ : ∃ y, y = cc.toNat / 2 ^ t := ⟨_, rfl⟩
  have hyl : y < 256 := by rw [hy]; exact Nat.lt_of_le_of_lt (Nat.div_le_self _ _) (by omega)
  have ey : (cc.toNat : Int) / 2 ^ t = (y : Int) := by rw [hy]; simp
  have eo : bits .and .u64 (y : Int) 1 = (x.toNat : Int) := by
    rw [u64_odd y (by omega), hy, ht, bit_num cc s hs8, ← hbit]
  have HX := hide (And.intro hbit (And.intro hq (And.intro hsq (And.intro ht hy))))
  have ht7 : t < 8 := by omega
  clear hbit hq hsq ht hy hx h1 h3 h6 h7 hcc hcl
  go_enter Try.func38, Try.ntmps38
  go_wp2
  go_ret
  exact ⟨rfl, rfl⟩
end Go.Proofs.Ytbicpnhgokngeaa
