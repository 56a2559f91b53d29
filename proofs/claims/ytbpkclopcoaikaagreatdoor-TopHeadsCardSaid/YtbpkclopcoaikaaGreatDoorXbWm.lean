/- The walks of depend's way, usable and Depth, at a forest. -/
import Derived.Test.YtbpkclopcoaikaaGreatDoorXAm
import Derived.Test.YtbpkclopcoaikaaGreatDoorXaWm
namespace Go.Proofs.YtbpkclopcoaikaaGreatDoor
open Go.RowKit
set_option linter.unusedVariables false
set_option linter.unusedSimpArgs false
/-- What is left of a way at q. -/
def restU (p : List Int) (r : Nat → Nat) (q : Int) : List Nat := if q < 0 then [] else wayU p r q.toNat
theorem restU_nat (p : List Int) (r : Nat → Nat) (i : Nat) : restU p r (i : Int) = wayU p r i := by
  unfold restU
  rw [if_neg (by omega), Int.toNat_natCast]
theorem restU_step {p : List Int} {r : Nat → Nat} (hF : Forest p r) {i : Nat} {x : Int} (hx : p[i]? = some x) : restU p r (i : Int) = i :: restU p r x := by
  rw [restU_nat]
  rcases show x < 0 ∨ 0 ≤ x by omega with h | h
  · rw [wayU_root hF hx h]
    unfold restU
    rw [if_pos h]
  · rw [wayU_up hF (show Par p x.toNat i by unfold Par; rw [hx, Int.toNat_of_nonneg h])]
    unfold restU
    rw [if_neg (by omega)]
def WayP (p : List Int) (r : Nat → Nat) (i : Nat) (w : World) (e : Ending) (w' : World) : Prop := ∃ a m c, e = .returned (.slice a m c) ∧ m = r i + 1 ∧ w'.ownsRow w.heap.size 3 1 (.slice a m c) m ((nats (wayU p r i)).map iv) ∧ Below w.heap.size w w'
set_option maxHeartbeats 8000000 in
set_option maxRecDepth 100000 in
theorem dway_any (a : Option Addr) (n cp : Nat) (p : List Int) (r : Nat → Nat) (i : Nat) (w : World) (h : IsI w a n p) (hn : n ≤ 4096) (hF : Forest p r) (hi : i < n) :
    Calls Tryz.prog 35 #[.slice a n cp, .int .i64 (i : Int)] w (WayP p r i w) := by
  obtain ⟨i2, hi2, hz0, hz1, hz2⟩ := info_parts info_int
  have HI := hide h
  have HN := hide h.1
  have HF := hide hF
  have HL := hide (wayU_len hF _ i rfl (by rw [← h.1]; exact hi))
  have HDP := hide (forest_deep hF (i := i) (by rw [← h.1]; exact hi))
  clear h hF
  go_enter Tryz.func35, Tryz.ntmps35
  go_wp2_with fail
  go_loopw [1, 5] (fun qv vv wr => ∃ (q : Int) (xs : List Nat), qv = .int .i64 q ∧ -1 ≤ q ∧ q < n ∧ Hid (wayU p r i = xs ++ restU p r q) ∧ Hid (wr.ownsRow w.heap.size 3 1 vv xs.length ((nats xs).map iv)) ∧ Hid (Below w.heap.size w wr)) (fun qv _ _ => if intOf qv < 0 then 0 else r (intOf qv).toNat + 1)
  case atStart => exact ⟨(i : Int), [], rfl, by omega, by omega, hide (by rw [restU_nat]; rfl), hide (World.ownsRow_nil _ _ _ _), hide (bl_refl w)⟩
  case round =>
    obtain ⟨q, xs, rfl, hq0, hqn, HX, HO, HB⟩ := hrel
    obtain ⟨m, hm⟩ : ∃ m, m = xs.length := ⟨_, rfl⟩
    have HM := hide hm
    have hO := HO.out
    rw [← hm] at hO
    obtain ⟨av, cv, hv, hcc, hrd⟩ := ownG_form hO
    subst hv
    have HO := hide hO
    have hml : m ≤ n := by
      have h1 := HL.out
      rw [HX.out, List.length_append] at h1
      have := HDP.out
      have := HN.out
      omega
    clear hO hrd hcc hm
    by_cases hneg : q < 0
    · have hq : ¬ (0 : Int) ≤ q := by omega
      have hxs : xs = wayU p r i := by rw [HX.out]; unfold restU; rw [if_pos hneg, List.append_nil]
      go_wp2
      go_ret
      subst hxs
      exact ⟨_, _, _, rfl, by rw [HM.out, HL.out], HO.out, HB.out⟩
    · obtain ⟨k, rfl⟩ := Int.eq_ofNat_of_zero_le (show 0 ≤ q by omega)
      have hq : (0 : Int) ≤ (k : Int) := by omega
      have hkn : (k : Int) < (n : Int) := hqn
      have HRL := hide (rd_lit wr #[.int .i64 (k : Int)] 3 (0, 0))
      have HBA := hide (bl_alloc HB.out (.cells #[.int .i64 (k : Int)] 3 (0, 0)))
      have HOA := hide (ownG_below HO.out (bl_alloc (bl_refl wr) (.cells #[.int .i64 (k : Int)] 3 (0, 0))))
      obtain ⟨b, o, x, rfl, hbl, hx, e0⟩ := (HI.out.below HBA.out).at_ (show k < n by omega)
      have hrg := HF.out.rng k x hx
      rw [← HN.out] at hrg
      have HX2 : Hid (wayU p r i = (xs ++ [k]) ++ restU p r x) := hide (by rw [HX.out, restU_step HF.out hx, List.append_assoc]; rfl)
      have hmeas : (if x < 0 then 0 else r x.toNat + 1) < r k + 1 := by
        split
        · omega
        · have := HF.out.step x.toNat k (by unfold Par; rw [Int.toNat_of_nonneg (by omega)]; exact hx)
          omega
      have HMS := hide hmeas
      have HXX := hide hx
      clear hx hmeas e0 hbl
      have HSA := hide HBA.out.size
      go_wp2_with (at_builtin; go_loud (refine wpList_append_rd _ rfl (.tmp 12) (.tmp 14) 27 rfl w.heap.size 3 i2 _ 1 8 Tryz.underlying27 hi2 hz0 hz1 hz2 rfl (by decide) (.slice av m cv) m ((nats xs).map iv) rfl HOA.out (some ⟨wr.heap.size, 0, none⟩) 1 1 [.int .i64 (k : Int)] rfl rfl HRL.out (by intro u hu; simp at hu; subst hu; rfl) (by simp only [maxLen]; omega) (by omega) HSA.out ?_; intro v2 w2 hown hg1 hat1; have HB2 := hide (HBA.out.grown hg1 HSA.out (fun q hq => (ownG_lt HOA.out hq).1)); have HO2 : Hid (w2.ownsRow w.heap.size 3 1 v2 (xs ++ [k]).length ((nats (xs ++ [k])).map iv)) := hide (by rw [List.length_append, ← HM.out]; unfold nats at hown ⊢; rw [List.map_append, List.map_append]; exact hown); have e1 := (HI.out.below HB2.out).cell HXX.out; clear hown hg1 hat1))
      go_roundw
      case rel => exact ⟨x, xs ++ [k], rfl, by omega, by omega, HX2, HO2, HB2⟩
      case measure => simp [intOf]; exact HMS.out
theorem usable_any (a : Option Addr) (n cap : Nat) (p : List Int) (r : Nat → Nat) (i : Nat) (w : World) (h : IsI w a n p) (hc : n ≤ cap) (hcm : cap ≤ maxLen) (hm : n ≤ 4096) (hF : Forest p r) (hi : i < n) :
    Calls Tryz.prog 34 #[.slice a n cap, .int .i64 (i : Int)] w fun e w' => e = .returned (.bool true) ∧ Below w.heap.size w w' := by
  have HC := hide (dcheck_any a n cap p r w h hc hcm hm hF)
  clear h hF
  have h1 : (0 : Int) ≤ (i : Int) := by omega
  have h2 : (i : Int) < (n : Int) := by omega
  go_enter Tryz.func34, Tryz.ntmps34
  go_wp2_with fail
  refine HC.out.mono ?_
  rintro e w1 ⟨rfl, hb⟩
  have HB := hide hb
  clear hb
  go_wp2
  go_ret
  exact ⟨rfl, HB.out⟩
theorem depth_any (a : Option Addr) (n cap : Nat) (p : List Int) (r : Nat → Nat) (i : Nat) (w : World) (h : IsI w a n p) (hc : n ≤ cap) (hcm : cap ≤ maxLen) (hm : n ≤ 4096) (hF : Forest p r) (hi : i < n) :
    Calls Tryz.prog 18 #[.slice a n cap, .int .i64 (i : Int)] w fun e w' => e = .returned (.int .i64 (r i : Int)) ∧ Below w.heap.size w w' := by
  have HI := hide h
  have HF := hide hF
  have HU := hide (usable_any a n cap p r i w h hc hcm hm hF hi)
  have HDP := hide (forest_deep hF (i := i) (by rw [← h.1]; exact hi))
  have HN := hide h.1
  clear h hF
  go_enter Tryz.func18, Tryz.ntmps18
  go_wp2_with fail
  refine HU.out.mono ?_
  rintro e w1 ⟨rfl, hb⟩
  have HB := hide hb
  have HW := hide (dway_any a n cap p r i w1 (HI.out.below hb) hm HF.out hi)
  clear hb HU
  go_wp2_with fail
  refine HW.out.mono ?_
  rintro e w2 ⟨a2, m2, c2, rfl, hm2, -, hb2⟩
  have HB2 := hide (HB.out.trans (hb2.mono HB.out.size))
  have h9 : r i ≤ 4096 := by have := HDP.out; have := HN.out; omega
  subst hm2
  clear hb2 HW
  go_wp2
  go_ret
  exact ⟨by simp, HB2.out⟩
end Go.Proofs.YtbpkclopcoaikaaGreatDoor
