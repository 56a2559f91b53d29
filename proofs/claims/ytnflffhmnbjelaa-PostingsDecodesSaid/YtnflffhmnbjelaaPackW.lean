/- The walk of the reference's Pack. -/
import Derived.Test.YtnflffhmnbjelaaRefW
import Derived.Test.YtnflffhmnbjelaaSlots
namespace Go.Proofs.Ytnflffhmnbjelaa
open Go.RowKit
set_option linter.unusedVariables false
set_option linter.unusedSimpArgs false
def bytesTo (l : List Bool) (k m : Nat) : List UInt8 := (List.range m).map (byteAt (l.take k))
theorem bytesTo_zero (l : List Bool) (m : Nat) : bytesTo l 0 m = List.replicate m 0 := by
  unfold bytesTo
  rw [List.take_zero]
  apply List.ext_getElem
  · simp
  · intro i h1 h2
    simp only [List.getElem_map, List.getElem_range, List.getElem_replicate]
    exact byteAt_none [] i (by simp)
theorem bytesTo_all (l : List Bool) : bytesTo l l.length (nby l.length) = packL l := by simp [bytesTo, packL]
theorem bytesTo_get (l : List Bool) (k m j : Nat) (h : j < m) : (bytesTo l k m)[j]? = some (byteAt (l.take k) j) := by simp [bytesTo, h]
theorem bytesTo_step (l : List Bool) (k m : Nat) (x : Bool) (hx : l[k]? = some x) (hq : k / 8 < m) :
    bytesTo l (k + 1) m = if x then (bytesTo l k m).set (k / 8) (byteAt (l.take k) (k / 8) ||| bitv (k % 8)) else bytesTo l k m := by
  have hk : k < l.length := (List.getElem?_eq_some_iff.1 hx).1
  have hl : (l.take k).length = k := by simp; omega
  have ht : l.take (k + 1) = l.take k ++ [x] := by rw [List.take_add_one, hx]; rfl
  have hat := byteAt_at (l.take k) x
  rw [hl] at hat
  apply List.ext_getElem?
  intro i
  rcases Nat.lt_or_ge i m with h | h
  · rw [bytesTo_get _ _ _ _ h, ht]
    by_cases hi : i = k / 8
    · subst hi
      rw [hat]
      cases x
      · simp [bytesTo_get _ _ _ _ h]
      · simp [bytesTo, h]
    · rw [byteAt_far (l.take k) x i (by rw [hl]; exact hi)]
      cases x
      · simp [bytesTo_get _ _ _ _ h]
      · simp only [if_true]
        rw [List.getElem?_set_ne (by omega), bytesTo_get _ _ _ _ h]
  · rw [List.getElem?_eq_none (by simp [bytesTo]; exact h)]
    cases x
    · simp only [Bool.false_eq_true, if_false]
      rw [List.getElem?_eq_none (by simp [bytesTo]; exact h)]
    · simp only [if_true]
      rw [List.getElem?_eq_none (by simp [bytesTo]; exact h)]
set_option maxHeartbeats 1000000 in
set_option maxRecDepth 100000 in
theorem pack_ref (a : Option Addr) (n c : Nat) (l : List Bool) (w : World) (hn : n = l.length) (hm : n ≤ 100000000) (hr : Rd w a (l.map Value.bool)) :
    Calls Try.prog 40 #[.slice a n c] w fun e w' => ∃ r, e = .returned r ∧ w'.ownsRow w.heap.size 5 1 r (packL l).length ((packL l).map u8v) ∧ Below w.heap.size w w' := by
  have HN := hide hn
  have HR := hide hr
  clear hn hr
  obtain ⟨i0, hi0, hz0, hz1, hz2⟩ := info_parts info_u8
  obtain ⟨m, hmm⟩ : ∃ m, m = nby n := ⟨_, rfl⟩
  have em : ((n : Int) + 7) / 8 = (m : Int) := by rw [hmm]; unfold nby; omega
  have hmn : m ≤ n + 7 := by rw [hmm]; unfold nby; omega
  have HM := hide hmm
  have hcov : ∀ k, k < n → k / 8 < m := fun k hk => by rw [hmm]; unfold nby; omega
  have HC := hide hcov
  clear hmm hcov
  go_enter Try.func40, Try.ntmps40
  go_wp2_with (at_make; go_loud (refine wpList_make_full _ rfl (.tmp 9) (.tmp 9) 42 rfl w.heap.size 5 i0 _ 1 Try.underlying42 hi0 hz0 hz1 .i64 .i64 _ _ m rfl rfl em em (by rw [hz2]; omega) (by simp only [maxLen]; omega) (Nat.le_refl _) ?_); intro w1 hown hg1; rw [made_one _ rfl] at hown; have hb1 : Below w.heap.size w w1 := bl_grown (bl_refl w) hg1 (fun k h => by cases h); have HO := hide hown; clear hown hg1)
  go_wp2_with fail
  clear em
  go_loopw [13] (fun i wr => ∃ k : Nat, i = .int .i64 (k : Int) ∧ k ≤ n ∧ wr.ownsRow w.heap.size 5 1 (.slice (some ⟨w.heap.size, 0, none⟩) m m) m ((bytesTo l k m).map u8v) ∧ Below w.heap.size w wr) (fun i _ => n - (intOf i).toNat)
  case atStart => exact ⟨0, rfl, Nat.zero_le _, by rw [bytesTo_zero, List.map_replicate]; exact HO.out, hb1⟩
  case round =>
    obtain ⟨k, rfl, hk, hown, hb⟩ := hrel
    have HW := hide hown
    clear hown
    by_cases hlt : k < n
    · obtain ⟨x, hx⟩ : ∃ x, l[k]? = some x := ⟨l[k]'(by rw [← HN.out]; exact hlt), List.getElem?_eq_getElem _⟩
      obtain ⟨b, o, rfl, hbl, hc⟩ := (HR.out.below hb).at_ (k := k) (v := .bool x) (by simp [hx])
      have hq := HC.out k hlt
      have HST := hide (bytesTo_step l k m x hx hq)
      have HX := hide hx
      have HQ := hide (bytesTo_get l k m (k / 8) hq)
      clear hx
      cases x with
      | false =>
        go_wp2
        go_roundw
        case rel => exact ⟨k + 1, by go_num, by omega, by rw [HST.out]; exact HW.out, hb⟩
        case measure => simp [intOf]; omega
      | true =>
        obtain ⟨q, hqq⟩ : ∃ q, q = k / 8 := ⟨_, rfl⟩
        obtain ⟨s, hs⟩ : ∃ s, s = k % 8 := ⟨_, rfl⟩
        have eq8 : (k : Int) / 8 = (q : Int) := by omega
        have er8 : (k : Int) % 8 = (s : Int) := by omega
        rw [← hqq] at hq HST HQ
        rw [← hs] at HST
        have hqi : (q : Int) < m := by omega
        have hs8 : s < 8 := by omega
        obtain ⟨⟨vq, hvq, mq⟩, mf⟩ := own_at HW.out hq
        have hvq2 : vq = .int .u8 ((byteAt (l.take k) q).toNat : Int) := by
          rw [List.getElem?_map, HQ.out] at hvq
          simpa [u8v] using hvq.symm
        rw [hvq2] at mq
        have eb := bitv_shr s hs8
        have eo := u8_bor (byteAt (l.take k) q) (bitv s)
        have HSET := hide (own_set HW.out hq (u8v (byteAt (l.take k) q ||| bitv s)))
        clear hqq hs hvq hvq2
        generalize byteAt (l.take k) q = old at *
        generalize bitv s = bv at *
        generalize hnew : old ||| bv = new at *
        clear hnew
        go_wp2
        go_roundw
        case rel =>
          refine ⟨k + 1, by go_num, by omega, ?_, bl_set hb (Nat.le_refl _) _⟩
          rw [HST.out, if_pos rfl, List.map_set]
          exact HSET.out
        case measure => simp [intOf]; omega
    · obtain rfl : k = n := by omega
      go_wp2
      go_ret
      refine ⟨_, rfl, ?_, hb⟩
      have h1 := HW.out
      rw [HM.out, HN.out, bytesTo_all] at h1
      rw [packL_length, HM.out, HN.out]
      exact h1
end Go.Proofs.Ytnflffhmnbjelaa
