/- The walk of depend.Check, at a forest (its code is that of treelabel.check). -/
import Derived.Test.YtbpkclopcoaikaaGreatDoorMl
namespace Go.Proofs.YtbpkclopcoaikaaGreatDoor
open Go.RowKit
set_option linter.unusedVariables false
set_option linter.unusedSimpArgs false
set_option maxHeartbeats 2000000 in
set_option maxRecDepth 100000 in
theorem dcheck_any (a : Option Addr) (n cap : Nat) (p : List Int) (r : Nat → Nat) (w : World) (h : IsI w a n p) (hc : n ≤ cap) (hcm : cap ≤ maxLen) (hm : n ≤ 4096) (hF : Forest p r) :
    Calls Tryz.prog 54 #[.slice a n cap] w fun e w' => e = .returned (.tuple #[.int .i64 0, .int .i64 0]) ∧ Below w.heap.size w w' := by
  have HI := hide h
  have HN := hide h.1
  have HF := hide hF
  unfold maxLen at hcm
  clear h hF
  have h4' : ¬ (4096 : Int) < (n : Int) := by omega
  obtain ⟨i2, hi2, hz0, hz1, hz2⟩ := info_parts info_int
  go_enter Tryz.func54, Tryz.ntmps54
  go_wp2_with fail
  go_loopw [17] (fun i wr => ∃ k : Nat, i = .int .i64 (k : Int) ∧ k ≤ n ∧ Hid (wr = w)) (fun i _ => n - (intOf i).toNat)
  case atStart => exact ⟨0, rfl, Nat.zero_le _, hide rfl⟩
  case round =>
    obtain ⟨k, rfl, hk, hwr⟩ := hrel
    have hwr := hwr.out
    subst hwr
    by_cases hlt : k < n
    · obtain ⟨b, o, x, rfl, hbl, hx, e0⟩ := HI.out.at_ hlt
      have hkn : (k : Int) < (n : Int) := by omega
      have hrg := HF.out.rng k x hx
      rw [← HN.out] at hrg
      have h1 : ¬ x < -1 := by omega
      have h2 : ¬ (n : Int) ≤ x := by omega
      have h3 : x < (n : Int) := by omega
      clear hrg hx hlt
      go_wp2
      go_roundw
      case rel => exact ⟨k + 1, by go_num, by omega, hide trivial⟩
      case measure => simp [intOf]; omega
    · obtain rfl : k = n := by omega
      clear hlt
      obtain ⟨W, hW⟩ : ∃ W, W = wr := ⟨_, rfl⟩
      subst hW
      go_wp2_with (at_make; go_loud (refine wpList_make_full _ rfl (.tmp 33) (.tmp 33) 27 rfl W.heap.size 3 i2 _ 1 Tryz.underlying27 hi2 hz0 hz1 .i64 .i64 _ _ k rfl rfl rfl rfl (by rw [hz2]; omega) (by simp only [maxLen]; omega) (Nat.le_refl _) ?_); intro w2 hown hg1; rw [made_one _ rfl] at hown; have hb2 : Below W.heap.size W w2 := bl_grown (bl_refl W) hg1 (fun k h => by cases h); have HO := hide hown; have HB := hide hb2; clear hown hg1 hb2)
      have HS := hide (SeenOk.start k)
      have hO := HO.out
      rw [show List.replicate k (Value.int .i64 0) = (List.replicate k (0 : Int)).map iv by rw [List.map_replicate]; rfl] at hO
      have HO := hide hO
      clear hO
      obtain ⟨g, hg⟩ : ∃ g, g = W.heap.size := ⟨_, rfl⟩
      obtain ⟨Z0, hZ0⟩ : ∃ Z0, Z0 = List.replicate k (0 : Int) := ⟨_, rfl⟩
      rw [← hZ0] at HO HS
      rw [← hg] at HO HB ⊢
      have HG := hide hg
      clear hZ0 hg
      go_wp2_with fail
      go_loopw [7, 37] (fun lv i wr => ∃ (j : Nat) (z : List Int), lv = .int .i64 (-1) ∧ i = .int .i64 (j : Int) ∧ j ≤ k ∧ Hid (SeenOk z k j) ∧ Hid (wr.ownsRow g 3 1 (.slice (some ⟨g, 0, none⟩) k k) k (z.map iv)) ∧ Hid (Below g W wr)) (fun _ i _ => k - (intOf i).toNat)
      case atStart => exact ⟨0, Z0, rfl, rfl, Nat.zero_le _, HS, HO, HB⟩
      case round =>
        obtain ⟨j, z, rfl, rfl, hj, HZ, HW, HX⟩ := hrel
        by_cases hjk : j < k
        · have hjk' : (j : Int) < (k : Int) := by omega
          have HZ1 := hide (HZ.out.mono (Nat.le_succ j))
          have HD1 : Hid (Deeper r z j (j : Int)) := hide (Deeper.start HZ.out)
          generalize wr = wy at *
          go_wp2_with fail
          go_loopw [9] (fun av wr => ∃ (at_ : Int) (z : List Int), av = .int .i64 at_ ∧ -1 ≤ at_ ∧ at_ < (k : Int) ∧ Hid (SeenOk z k (j + 1)) ∧ Hid (Deeper r z j at_) ∧ Hid (wr.ownsRow g 3 1 (.slice (some ⟨g, 0, none⟩) k k) k (z.map iv)) ∧ Hid (Below g W wr)) (fun av _ => if intOf av < 0 then 0 else r (intOf av).toNat + 1)
          case atStart => exact ⟨j, z, rfl, by omega, by omega, HZ1, HD1, HW, HX⟩
          case round =>
            obtain ⟨y, z, rfl, hy1, hy2, HZ, HD, HW, HX⟩ := hrel
            by_cases h0 : y < 0
            · have h0' : ¬ 0 ≤ y := by omega
              go_wp2
              go_roundw
              case rel => exact ⟨j + 1, z, rfl, by go_num, by omega, HZ, HW, HX⟩
              case measure => simp [intOf]; omega
            · obtain ⟨q, rfl⟩ := Int.eq_ofNat_of_zero_le (show 0 ≤ y by omega)
              have hqk : q < k := by omega
              obtain ⟨b, o, x, rfl, hbl, hx, e0⟩ := (HI.out.below (by rw [← HG.out]; exact HX.out)).at_ hqk
              obtain ⟨⟨v1, hv, m1⟩, f1⟩ := own_at HW.out hqk
              have hzq : z[q]? = some (z[q]'(by rw [HZ.out.1]; exact hqk)) := List.getElem?_eq_getElem _
              rw [List.getElem?_map, hzq] at hv
              injection hv with hv
              generalize z[q]'(by rw [HZ.out.1]; exact hqk) = s at *
              subst hv
              change wr.cell? ⟨g, q, none⟩ = some (.int .i64 s) at m1
              have hn0 : ¬ s < 0 := by have := HZ.out.2 s (List.mem_of_getElem? hzq); omega
              have hs1 : s ≠ (j : Int) + 1 := fun e => by
                subst e
                exact Nat.lt_irrefl _ (HD.out q q hzq rfl)
              by_cases hs0 : s = 0
              · have hse : (s == (0 : Int)) = true := by simp [hs0]
                have hrg := HF.out.rng q x hx
                rw [← HN.out] at hrg
                have HZ2 := hide (HZ.out.set (q := q))
                have HD2 := hide (HD.out.step HF.out hx)
                have HW2 := hide (own_set HW.out hqk (iv ((j : Int) + 1)))
                have hset := HW2.out
                rw [← List.map_set] at hset
                have HW3 := hide hset
                have HX2 : Hid (Below g W (wr.setCell ⟨g, q, none⟩ (iv ((j : Int) + 1)))) := hide (by
                  have := HX.out
                  rw [HG.out] at this ⊢
                  exact bl_set this (Nat.le_refl _) _)
                have hmeas : (if x < 0 then 0 else r x.toNat + 1) < r q + 1 := by
                  split
                  · omega
                  · have := HF.out.step x.toNat q (by unfold Par; rw [Int.toNat_of_nonneg (by omega)]; exact hx)
                    omega
                have HM := hide hmeas
                have e1 : (wr.setCell ⟨g, q, none⟩ (iv ((j : Int) + 1))).cell? ⟨b, o + q, none⟩ = some (.int .i64 x) := (HI.out.below (by rw [← HG.out]; exact HX2.out)).cell hx
                clear hset HW2 hmeas hzq hx
                have hb : (0 : Int) ≤ (q : Int) := by omega
                have hjq : ¬ ((q : Int) < 0) := by omega
                simp only [show ∀ z, iv z = Value.int .i64 z from fun _ => rfl] at HX2 e1
                rw [show iv ((j : Int) + 1) = Value.int .i64 ((j : Int) + 1) from rfl] at HW3
                go_wp2
                go_roundw
                case rel => exact ⟨x, z.set q ((j : Int) + 1), rfl, by omega, by omega, HZ2, HD2, HW3, HX2⟩
                case measure => simp [intOf]; exact HM.out
              · have hb : (0 : Int) ≤ (q : Int) := by omega
                have hjq : ¬ ((q : Int) < 0) := by omega
                have hse : (s == (0 : Int)) = false := by simp [hs0]
                have hsj : (s == (j : Int) + 1) = false := by simp [hs1]
                clear hx hzq
                go_wp2
                go_roundw
                case rel => exact ⟨j + 1, z, rfl, by go_num, by omega, HZ, HW, HX⟩
                case measure => simp [intOf]; omega
        · obtain rfl : j = k := by omega
          have hX := HX.out
          rw [HG.out] at hX
          have HX2 := hide hX
          clear hX
          generalize wr = w9 at *
          go_wp2
          go_ret2
          exact ⟨rfl, HX2.out⟩
end Go.Proofs.YtbpkclopcoaikaaGreatDoor
