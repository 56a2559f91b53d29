/- The walks of the checksum's functions: the program's Sum and the reference's. -/
import Derived.Test.YtnflffhmnbjelaaProg
import Derived.Test.YtnflffhmnbjelaaCrc
namespace Go.Proofs.Ytnflffhmnbjelaa
open Go.RowKit
set_option linter.unusedVariables false
set_option linter.unusedSimpArgs false

/-- checksum.step: n bits 0. -/
theorem step_any (a m : Int) (v : BitVec 32) (n : Nat) (w : World) (ha : a = v.toNat) (hm : m = n) (hn : n ≤ 64) :
    Calls Try.prog 63 #[.int .u32 a, .int .i64 m] w fun e w' => e = .returned (.int .u32 ((stpN n v).toNat : Int)) ∧ w = w' := by
  subst ha hm
  go_enter Try.func63, Try.ntmps63
  go_wp2
  go_loop [0, 6] (fun x i => ∃ k : Nat, k ≤ n ∧ i = .int .i64 k ∧ x = .int .u32 ((stpN k v).toNat : Int)) (fun _ i => n - (intOf i).toNat)
  case atStart => exact ⟨0, Nat.zero_le _, rfl, rfl⟩
  case round =>
    obtain ⟨k, hk, rfl, rfl⟩ := hrel
    by_cases hlt : k < n
    · have H := hide (stp_walk (stpN k v))
      go_wp2
      all_goals
        go_round
        case rel => exact ⟨k + 1, by omega, by go_num, by show _ = Value.int .u32 ((stp (stpN k v)).toNat : Int); rw [H.out]; first | rw [if_pos ‹_›] | rw [if_neg (by simp [*])]⟩
        case measure => simp [intOf]; omega
    · go_wp2
      go_ret
      obtain rfl : k = n := by omega
      exact ⟨rfl, rfl⟩

/-- corporaref03.step: eight bits 0. -/
theorem rstep_any (a : Int) (v : BitVec 32) (w : World) (ha : a = v.toNat) :
    Calls Try.prog 64 #[.int .u32 a] w fun e w' => e = .returned (.int .u32 ((stpN 8 v).toNat : Int)) ∧ w = w' := by
  subst ha
  go_enter Try.func64, Try.ntmps64
  go_wp2
  go_loop [0, 3] (fun x i => ∃ k : Nat, k ≤ 8 ∧ i = .int .i64 k ∧ x = .int .u32 ((stpN k v).toNat : Int)) (fun _ i => 8 - (intOf i).toNat)
  case atStart => exact ⟨0, Nat.zero_le _, rfl, rfl⟩
  case round =>
    obtain ⟨k, hk, rfl, rfl⟩ := hrel
    by_cases hlt : k < 8
    · have H := hide (stp_walk (stpN k v))
      go_wp2
      all_goals
        go_round
        case rel => exact ⟨k + 1, by omega, by go_num, by show _ = Value.int .u32 ((stp (stpN k v)).toNat : Int); rw [H.out]; first | rw [if_pos ‹_›] | rw [if_neg (by simp [*])]⟩
        case measure => simp [intOf]; omega
    · go_wp2
      go_ret
      obtain rfl : k = 8 := by omega
      exact ⟨rfl, rfl⟩

/-- corporaref03.Sum. -/
theorem rsum_any (a : Option Addr) (len cap : Nat) (l : List UInt8) (w : World) (hl : len = l.length) (hm : len ≤ 1000000) (hr : BRd w a l) :
    Calls Try.prog 57 #[.slice a len cap] w fun e w' => e = .returned (.int .u32 ((crc l).toNat : Int)) ∧ w = w' := by
  have HL := hide hl
  have HR := hide hr
  clear hl hr
  go_enter Try.func57, Try.ntmps57
  go_wp2
  go_loop [3, 8] (fun x i => ∃ k : Nat, k ≤ len ∧ i = .int .i64 k ∧ x = .int .u32 ((crcF 0xFFFFFFFF#32 (l.take k)).toNat : Int)) (fun _ i => len - (intOf i).toNat)
  case atStart => exact ⟨0, Nat.zero_le _, rfl, rfl⟩
  case round =>
    obtain ⟨k, hk, rfl, rfl⟩ := hrel
    by_cases hlt : k < len
    · obtain ⟨b, o, c, rfl, hb, hlc, hc⟩ := HR.out.at_ (k := k) (by rw [← HL.out]; exact hlt)
      have HLC := hide hlc
      clear hlc
      have e1 := bv_c32 c
      generalize hx : crcF 0xFFFFFFFF#32 (l.take k) = x
      have HX := hide hx
      clear hx
      have e2 := bv_xor x (c32 c)
      generalize hy : x ^^^ c32 c = y at e2
      have HY := hide hy
      clear hy
      go_wp2_with (go_at_call 64; refine (rstep_any _ _ _ (by rfl)).mono ?_; rintro e w' ⟨rfl, rfl⟩)
      go_round
      case rel => exact ⟨k + 1, by omega, by go_num, by rw [take_snocC l k c HLC.out, crcF_snoc, HX.out, crcB, HY.out]⟩
      case measure => simp [intOf]; omega
    · go_wp2
      go_ret
      obtain rfl : k = len := by omega
      exact ⟨ret_int (by rw [HL.out, List.take_length, crc]; exact bv_not _), rfl⟩

/-- The table of checksum.Sum, its first k numbers filled in. -/
def tabA (k : Nat) : Array Value := ((List.range 16).map fun i => if i < k then Value.int .u32 ((stpN 4 (BitVec.ofNat 32 i)).toNat : Int) else .int .u32 0).toArray
theorem tabA_get (k j : Nat) (hj : j < 16) : (tabA k)[j]? = some (if j < k then Value.int .u32 ((stpN 4 (BitVec.ofNat 32 j)).toNat : Int) else .int .u32 0) := by
  simp [tabA, hj]
theorem tabA_set (k : Nat) : (tabA k).setIfInBounds k (.int .u32 ((stpN 4 (BitVec.ofNat 32 k)).toNat : Int)) = tabA (k + 1) := by
  apply Array.ext_getElem?
  intro j
  rw [Array.getElem?_setIfInBounds]
  have hs : ∀ k, (tabA k).size = 16 := fun k => by simp [tabA]
  by_cases hj : j < 16
  · rw [tabA_get _ _ hj, tabA_get _ _ hj, hs]
    by_cases e : k = j
    · subst e; simp [hj]
    · rw [if_neg e]; congr 1
      by_cases h : j < k
      · rw [if_pos h, if_pos (by omega)]
      · rw [if_neg h, if_neg (by omega)]
  · rw [Array.getElem?_eq_none (by rw [hs]; omega), Array.getElem?_eq_none (by rw [hs]; omega), hs]
    split <;> simp; omega
theorem tab_cell (w : World) (k j : Nat) (hj : j < 16) : (w.alloc (.cells (tabA k) 109)).cell? ⟨w.heap.size, j, none⟩ = some (if j < k then Value.int .u32 ((stpN 4 (BitVec.ofNat 32 j)).toNat : Int) else .int .u32 0) := by
  rw [cell_of_row _ _ j _ _ (0, 0) (heap_alloc_new w _), tabA_get k j hj]

/-- checksum.Sum. -/
theorem sum_any (a : Option Addr) (len cap : Nat) (l : List UInt8) (w : World) (hl : len = l.length) (hm : len ≤ 1000000) (hr : BRd w a l) :
    Calls Try.prog 54 #[.slice a len cap] w fun e w' => e = .returned (.int .u32 ((crc l).toNat : Int)) ∧ Below w.heap.size w w' := by
  have HL := hide hl
  have HR := hide hr
  clear hl hr
  go_enter Try.func54, Try.ntmps54
  go_wp2
  go_loopw [8] (fun i wr => ∃ k : Nat, k ≤ 16 ∧ i = .int .i64 k ∧ wr = w.alloc (.cells (tabA k) 109)) (fun i _ => 16 - (intOf i).toNat)
  case atStart => exact ⟨0, Nat.zero_le _, rfl, rfl⟩
  case round =>
    obtain ⟨k, hk, rfl, rfl⟩ := hrel
    by_cases hlt : k < 16
    · have hcell := tab_cell w k k hlt
      rw [if_neg (Nat.lt_irrefl k)] at hcell
      have EK := hide (show (k : Int) = ((BitVec.ofNat 32 k).toNat : Int) by simp; omega)
      go_wp2_with (go_at_call 63; refine (step_any _ _ (BitVec.ofNat 32 k) 4 _ EK.out (by omega) (by omega)).mono ?_; rintro e w' ⟨rfl, rfl⟩)
      go_roundw
      case rel => exact ⟨k + 1, by omega, by go_num, by rw [tabA_set]⟩
      case measure => simp [intOf]; omega
    · obtain rfl : k = 16 := by omega
      have HC := hide (fun j hj => tab_cell w 16 j hj)
      have HR1 := hide (HR.out.alloc (.cells (tabA 16) 109))
      generalize hW : w.alloc (.cells (tabA 16) 109) = W at HC HR1
      have HB : Below w.heap.size w W := by rw [← hW]; exact (Below.refl _ _).alloc (Nat.le_refl _) _
      clear hW HR
      go_wp2
      go_loop [5, 19] (fun x i => ∃ k : Nat, k ≤ len ∧ i = .int .i64 k ∧ x = .int .u32 ((crcF 0xFFFFFFFF#32 (l.take k)).toNat : Int)) (fun _ i => len - (intOf i).toNat)
      case atStart => exact ⟨0, Nat.zero_le _, rfl, rfl⟩
      case round =>
        obtain ⟨k, hk, rfl, rfl⟩ := hrel
        by_cases hlt2 : k < len
        · obtain ⟨b, o, c, rfl, hb, hlc, hc⟩ := HR1.out.at_ (k := k) (by rw [← HL.out]; exact hlt2)
          have HLC := hide hlc
          clear hlc
          have e1 := bv_c32 c
          generalize hx : crcF 0xFFFFFFFF#32 (l.take k) = x
          have HX := hide hx
          clear hx
          have e2 := bv_xor x (c32 c)
          generalize hy : x ^^^ c32 c = y at e2
          have HY := hide hy
          clear hy
          obtain ⟨i1, t1, z1, hi1, e3, ht1, e4, hz1⟩ := nib_walk y
          obtain ⟨i2, t2, z2, hi2, e5, ht2, e6, hz2⟩ := nib_walk z1
          have c1 := HC.out i1 hi1
          rw [if_pos hi1, ← ht1] at c1
          have c2 := HC.out i2 hi2
          rw [if_pos hi2, ← ht2] at c2
          have HZ : Hid (z2 = stpN 8 y) := by rw [hz2, hz1]; exact nib2 y
          clear ht1 ht2 hz1 hz2
          go_wp2
          go_round
          case rel => exact ⟨k + 1, by omega, by go_num, by rw [take_snocC l k c HLC.out, crcF_snoc, HX.out, crcB, HY.out, HZ.out]⟩
          case measure => simp [intOf]; omega
        · go_wp2
          go_ret
          obtain rfl : k = len := by omega
          exact ⟨ret_int (by rw [HL.out, List.take_length, crc]; exact bv_not _), HB⟩
end Go.Proofs.Ytnflffhmnbjelaa
