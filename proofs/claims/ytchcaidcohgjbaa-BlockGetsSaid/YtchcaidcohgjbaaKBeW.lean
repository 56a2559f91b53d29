/- The walk of best. -/
import Derived.Test.YtchcaidcohgjbaaKChW
namespace Go.Proofs.Ytchcaidcohgjbaa
open Go.RowKit
set_option linter.unusedVariables false
set_option linter.unusedSimpArgs false
def rowC (f : Nat → Nat) (k : Nat) : List Value := (List.range k).map (fun j => nv (f j)) ++ List.replicate (32 - k) (nv 0)
theorem rowC_length (f : Nat → Nat) (k : Nat) (h : k ≤ 32) : (rowC f k).length = 32 := by simp [rowC]; omega
theorem rowC_get (f : Nat → Nat) (k j : Nat) (h : j < k) : (rowC f k)[j]? = some (nv (f j)) := by
  unfold rowC
  rw [List.getElem?_append_left (by simpa using h)]
  simp [h]
theorem rowC_set (f : Nat → Nat) (k : Nat) (h : k < 32) : (rowC f k).set k (nv (f k)) = rowC f (k + 1) := by
  unfold rowC
  rw [List.set_append_right _ _ (by simp), List.length_map, List.length_range, Nat.sub_self, show 32 - k = (31 - k) + 1 by omega, List.replicate_succ, List.set_cons_zero, List.range_succ, List.map_append, List.append_assoc, show 32 - (k + 1) = 31 - k by omega]
  rfl
set_option maxHeartbeats 1000000 in
set_option maxRecDepth 100000 in
theorem best_any (a : Option Addr) (n cap : Nat) (vs : List Nat) (w : World) (h : IsV w a n vs) (hok : okV vs) :
    Calls Try.prog 24 #[.slice a n cap] w fun e w' => e = .returned (.int .i64 ((bestM vs : Nat) : Int)) ∧ Below w.heap.size w w' := by
  have HI := hide h
  have HOK := hide hok
  clear h hok
  go_enter Try.func24, Try.ntmps24
  go_wp2_with fail
  go_loopw [4, 6] (fun bv i wr => ∃ k b : Nat, bv = .int .i64 (b : Int) ∧ i = .int .i64 (k : Int) ∧ k ≤ 32 ∧ b ≤ k ∧ (0 < k → b < k) ∧ Hid (b = bst (costF vs) k) ∧ Hid (wr.ownsRow w.heap.size 68 1 (.slice (some ⟨w.heap.size, 0, none⟩) 32 32) 32 (rowC (costF vs) k)) ∧ Hid (Below w.heap.size w wr)) (fun _ i _ => 32 - (intOf i).toNat)
  case atStart =>
    exact ⟨0, 0, rfl, rfl, by omega, Nat.le_refl _, fun h => absurd h (by omega), hide rfl, hide ⟨rfl, .inr ⟨w.heap.size, 32, _, rfl, Nat.le_refl _, heap_alloc_new w _, Nat.le_refl _, by decide, rfl, rfl⟩⟩, hide (bl_alloc (bl_refl w) _)⟩
  case round =>
    obtain ⟨k, b, rfl, rfl, hk, hbk, hbk2, HB, HO, HW⟩ := hrel
    by_cases hlt : k < 32
    · have HST := hide (rowC_set (costF vs) k hlt)
      have HFZ := hide (own_at HO.out hlt).2
      have HSET := own_set HO.out hlt (nv (costF vs k))
      rw [HST.out] at HSET
      have HS2 := hide HSET
      have hb1 : b ≤ k := hbk
      obtain ⟨⟨v1, q1, m1⟩, _⟩ := own_at HSET (show k < 32 from hlt)
      rw [rowC_get _ _ _ (Nat.lt_succ_self k)] at q1
      obtain rfl := Option.some.inj q1
      obtain ⟨⟨v2, q2, m2⟩, _⟩ := own_at HSET (show b < 32 by omega)
      rw [rowC_get _ _ _ (Nat.lt_succ_of_le hbk)] at q2
      obtain rfl := Option.some.inj q2
      obtain ⟨⟨v3, _, m3⟩, _⟩ := own_at HO.out hlt
      have f3 := HFZ.out
      have HBS := hide (show bst (costF vs) (k + 1) = if costF vs k < costF vs b then k else b by rw [HB.out]; rfl)
      have hw2 : Below w.heap.size w (wr.setCell ⟨w.heap.size, k, none⟩ (nv (costF vs k))) := bl_set HW.out (Nat.le_refl _) _
      have HW2 := hide hw2
      have hk32 : (k : Int) < 32 := by omega
      have HI1 := hide (HI.out.below HW.out)
      clear HSET q1 q2
      generalize hc1 : costF vs k = c1 at *
      generalize hc2 : costF vs b = c2 at *
      go_wp2_with fail
      refine (cost_any a n cap vs k _ _ HI1.out HOK.out rfl (by omega)).mono ?_
      rintro e w' ⟨rfl, rfl⟩
      rw [hc1]
      go_wp2_with fail
      have M1 : (wr.setCell ⟨w.heap.size, k, none⟩ (.int .i64 (c1 : Int))).cell? ⟨w.heap.size, k, none⟩ = some (.int .i64 (c1 : Int)) := m1
      have M2 : (wr.setCell ⟨w.heap.size, k, none⟩ (.int .i64 (c1 : Int))).cell? ⟨w.heap.size, b, none⟩ = some (.int .i64 (c2 : Int)) := m2
      have HW3 : Hid (Below w.heap.size w (wr.setCell ⟨w.heap.size, k, none⟩ (.int .i64 (c1 : Int)))) := HW2
      have HS3 : Hid ((wr.setCell ⟨w.heap.size, k, none⟩ (.int .i64 (c1 : Int))).ownsRow w.heap.size 68 1 (.slice (some ⟨w.heap.size, 0, none⟩) 32 32) 32 (rowC (costF vs) (k + 1))) := HS2
      clear m1 m2 HW2 HS2 hw2 m3 f3 HI1 HO HW
      generalize wr.setCell ⟨w.heap.size, k, none⟩ (.int .i64 (c1 : Int)) = w2 at *
      refine wp_region_K 6 (by kernel_rfl) (by kernel_rfl) (fun Q HQ => ?_)
      simp only [List.take_succ_cons, List.take_zero, List.map_cons, List.map_nil]
      have hb32 : (b : Int) < 32 := by omega
      repeat
        first | apply wpS_c rfl | apply wpS_gc rfl (guard_mk rfl rfl)
        focus
          intro ev wx hC hx
          (try simp [Op.operands, Call.operands, opndS, Slot.holds] at hx)
          have k1 : wx.cell? _ = _ := CB.cell hC (W0 := w2.drew) M1
          have k2 : wx.cell? _ = _ := CB.cell hC (W0 := w2.drew) M2
          go_simp
          try (first | exact rfl | exact ⟨Below.refl _ _, rfl⟩)
          done
        dsimp only [setS, List.set]
      refine wpS_nil (HQ _ fun w3 hC3 => ?_)
      simp only [closeS, List.drop_succ_cons, List.drop_zero]
      clear HQ
      have HB3 := hide hC3.below
      by_cases hlt2 : c1 < c2
      · have t1 : (c1 : Int) < c2 := by omega
        have HBS2 := hide (HBS.out.trans (if_pos hlt2))
        go_wp2
        go_roundw
        case rel => exact ⟨k + 1, k, by go_num, by go_num, by omega, by omega, fun _ => by omega, hide HBS2.out.symm, hide (own_below HS3.out HB3.out), hide (Below.trans HW3.out (HB3.out.mono HW3.out.size))⟩
        case measure => simp [intOf]; omega
      · have t1 : ¬ (c1 : Int) < c2 := by omega
        have HBS2 := hide (HBS.out.trans (if_neg hlt2))
        go_wp2
        go_roundw
        case rel => exact ⟨k + 1, b, by go_num, by go_num, by omega, by omega, fun _ => by omega, hide HBS2.out.symm, hide (own_below HS3.out HB3.out), hide (Below.trans HW3.out (HB3.out.mono HW3.out.size))⟩
        case measure => simp [intOf]; omega
    · obtain rfl : k = 32 := by omega
      go_wp2
      go_ret
      exact ⟨by rw [HB.out]; rfl, HW.out⟩
end Go.Proofs.Ytchcaidcohgjbaa
