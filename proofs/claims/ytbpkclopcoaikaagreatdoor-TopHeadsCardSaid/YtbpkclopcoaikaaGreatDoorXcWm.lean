/- The walks of corporatop.heads, treerel.Up and SameInts, at a forest. -/
import Derived.Test.YtbpkclopcoaikaaGreatDoorXbWm
import Derived.Test.YtbpkclopcoaikaaGreatDoorUaWm
import Derived.Test.YtbpkclopcoaikaaGreatDoorUqWm
namespace Go.Proofs.YtbpkclopcoaikaaGreatDoor
open Go.RowKit
set_option linter.unusedVariables false
set_option linter.unusedSimpArgs false
/-- Equal rows of ints are found equal. -/
theorem sameI_any (a b : Option Addr) (n c d : Nat) (l : List Int) (w : World) (ha : IsI w a n l) (hb : IsI w b n l) (hn9 : n ≤ 1000000) :
    Calls Tryz.prog 20 #[.slice a n c, .slice b n d] w fun e w' => e = .returned (.bool true) ∧ Below w.heap.size w w' := by
  have HA := hide ha
  have HB := hide hb
  clear ha hb
  have t1 : ((n : Int) != (n : Int)) = false := by simp
  go_enter Tryz.func20, Tryz.ntmps20
  go_wp2_with fail
  go_loopw [13] (fun i wr => ∃ k : Nat, i = .int .i64 (k : Int) ∧ k ≤ n ∧ Hid (Below w.heap.size w wr)) (fun i _ => n - (intOf i).toNat)
  case atStart => exact ⟨0, rfl, Nat.zero_le _, hide (bl_refl w)⟩
  case round =>
    obtain ⟨k, rfl, hk, HW⟩ := hrel
    by_cases hlt : k < n
    · obtain ⟨b1, o1, x, rfl, hb1, hx, e1⟩ := (HA.out.below HW.out).at_ hlt
      obtain ⟨b2, o2, y, rfl, hb2, hy, e2⟩ := (HB.out.below HW.out).at_ hlt
      obtain rfl : x = y := by rw [hx] at hy; injection hy
      have hkn : (k : Int) < (n : Int) := by omega
      have t2 : (x != x) = false := by simp
      clear hx hy hlt
      go_wp2_with fail
      go_quiet (fail)
      have HW3 := hide (bl_drewN HW.out nq)
      go_wp2
      go_roundw
      case rel => exact ⟨k + 1, by go_num, by omega, HW3⟩
      case measure => simp [intOf]; omega
    · obtain rfl : k = n := by omega
      have hkn : ¬ (k : Int) < (k : Int) := by omega
      go_wp2
      go_ret
      exact ⟨rfl, HW.out⟩
set_option maxHeartbeats 8000000 in
set_option maxRecDepth 100000 in
/-- The way above i. -/
theorem rup_any (c : Cv) (p : List Int) (r : Nat → Nat) (i : Nat) (w : World) (h : IsHd w c p) (hn : c.T.n ≤ 4096) (hF : Forest p r) (hi : i < c.T.n) :
    Calls Tryz.prog 15 #[c.v, .int .i64 (i : Int)] w fun e w' => ∃ a m k, e = .returned (.slice a m k) ∧ m = r i ∧ m ≤ k ∧ k ≤ maxLen ∧ IsI w' a m (nats (wayU p r i).tail) ∧ Below w.heap.size w w' := by
  obtain ⟨i2, hi2, hz0, hz1, hz2⟩ := info_parts info_int
  have hip : i < p.length := by rw [← h.len]; exact hi
  have HL := hide (wayU_len hF _ i rfl hip)
  have HDP := hide (show r i < c.T.n by rw [h.len]; exact forest_deep hF hip)
  have HLN := hide h.len
  have HF := hide hF
  obtain ⟨W0, hW0⟩ : ∃ W0, W0 = w.alloc c.o := ⟨_, rfl⟩
  have HB := hide (bl_alloc (bl_refl w) c.o)
  have HC := hide (CCells.new w c)
  rw [← hW0] at HB HC
  have HH := hide (h.below HB.out)
  obtain ⟨x0, hx0⟩ : ∃ x, p[i]? = some x := ⟨_, List.getElem?_eq_getElem hip⟩
  have HR0 : Hid (wayU p r i = i :: restU p r x0) := hide (by rw [← restU_nat, restU_step hF hx0])
  have hrg := hF.rng i x0 hx0
  rw [← h.len] at hrg
  have HTK : Hid (∀ wx, Calls Tryz.prog 25 #[c.v, .int .i64 (i : Int)] wx fun e w' => e = .returned (.bool true) ∧ Below wx.heap.size wx w') := hide (fun wx => token_tok c i wx hi)
  have HHD : Hid (∀ (q : Nat) (x : Int) (wx : World), p[q]? = some x → Below W0.heap.size W0 wx → Calls Tryz.prog 33 #[c.v, .int .i64 (q : Int)] wx fun e w' => e = .returned (.int .i64 x) ∧ Below wx.heap.size wx w') := hide (fun q x wx hx hw => head_any c p q x wx (HH.out.below hw) hx)
  have HX0 := hide hx0
  clear h hF hx0
  go_enter Tryz.func15, Tryz.ntmps15
  go_wp2_with fail
  rw [← hW0]
  clear hW0
  refine (HTK.out _).mono ?_
  rintro e w1 ⟨rfl, hb1⟩
  have HE1 := hide hb1
  clear hb1 HTK
  obtain ⟨s0, s1, s2, s3, s4, s5, s6⟩ := HC.out.below HE1.out
  go_wp2_with fail
  clear s0 s1 s2 s3 s4 s5 s6
  refine (HHD.out i x0 _ HX0.out HE1.out).mono ?_
  rintro e w2 ⟨rfl, hb2⟩
  have HE2 := hide (HE1.out.trans (hb2.mono HE1.out.size))
  clear hb2
  go_wp2_with fail
  go_loopw [1, 5] (fun qv vv wr => ∃ (q : Int) (xs : List Nat), qv = .int .i64 q ∧ -1 ≤ q ∧ q < c.T.n ∧ Hid (wayU p r i = i :: (xs ++ restU p r q)) ∧ Hid (wr.ownsRow W0.heap.size 3 1 vv xs.length ((nats xs).map iv)) ∧ Hid (Below W0.heap.size W0 wr)) (fun qv _ _ => if intOf qv < 0 then 0 else r (intOf qv).toNat + 1)
  case atStart => exact ⟨x0, [], rfl, hrg.1, hrg.2, HR0, hide (World.ownsRow_nil _ _ _ _), HE2⟩
  case round =>
    obtain ⟨q, xs, rfl, hq0, hqn, HX, HO, HBx⟩ := hrel
    obtain ⟨m, hm⟩ : ∃ m, m = xs.length := ⟨_, rfl⟩
    have HM := hide hm
    have hO := HO.out
    rw [← hm] at hO
    obtain ⟨av, cv, hv, hcc, hcm, hII⟩ := own_isI hO (by rw [hm]; simp [nats])
    subst hv
    have HO := hide hO
    have HII := hide hII
    have HCM := hide (And.intro hcc hcm)
    have hlen := HL.out
    rw [HX.out] at hlen
    simp only [List.length_cons, List.length_append] at hlen
    have hml : m ≤ c.T.n := by
      have := HDP.out
      omega
    have HLE := hide hlen
    clear hO hII hcc hcm hm hlen
    obtain ⟨s0, s1, s2, s3, s4, s5, s6⟩ := HC.out.below HBx.out
    by_cases hneg : q < 0
    · have hq : ¬ (0 : Int) ≤ q := by omega
      have hxs : (wayU p r i).tail = xs := by rw [HX.out]; unfold restU; rw [if_pos hneg, List.append_nil]; rfl
      have hmr : m = r i := by have h1 := HLE.out; unfold restU at h1; rw [if_pos hneg] at h1; simp at h1; have := HM.out; omega
      have HXS := hide hxs
      have HMR := hide hmr
      clear hxs hmr
      go_wp2
      go_ret
      exact ⟨_, _, _, rfl, HMR.out, HCM.out.1, HCM.out.2, by rw [HXS.out]; exact HII.out, HB.out.trans (HBx.out.mono HB.out.size)⟩
    · obtain ⟨k, rfl⟩ := Int.eq_ofNat_of_zero_le (show 0 ≤ q by omega)
      have hq : (0 : Int) ≤ (k : Int) := by omega
      have hmn : (m : Int) < (c.T.n : Int) := by
        have h1 := HLE.out
        rw [restU_nat, wayU_len HF.out _ k rfl (by rw [← HLN.out]; omega)] at h1
        have := HDP.out
        have := HM.out
        omega
      obtain ⟨x, hx⟩ : ∃ x, p[k]? = some x := ⟨_, List.getElem?_eq_getElem (by rw [← HLN.out]; omega)⟩
      have hrk := HF.out.rng k x hx
      rw [← HLN.out] at hrk
      have HX2 : Hid (wayU p r i = i :: ((xs ++ [k]) ++ restU p r x)) := hide (by rw [HX.out, restU_step HF.out hx, List.append_assoc]; rfl)
      have hmeas : (if x < 0 then 0 else r x.toNat + 1) < r k + 1 := by
        split
        · omega
        · have := HF.out.step x.toNat k (by unfold Par; rw [Int.toNat_of_nonneg (by omega)]; exact hx)
          omega
      have HMS := hide hmeas
      have HXX := hide hx
      have HRL := hide (rd_lit wr #[.int .i64 (k : Int)] 3 (0, 0))
      have HBA := hide (bl_alloc HBx.out (.cells #[.int .i64 (k : Int)] 3 (0, 0)))
      have HOA := hide (ownG_below HO.out (bl_alloc (bl_refl wr) (.cells #[.int .i64 (k : Int)] 3 (0, 0))))
      have HSA := hide HBA.out.size
      clear hx hmeas
      go_wp2_with (at_builtin; go_loud (refine wpList_append_rd _ rfl (.tmp 26) (.tmp 28) 27 rfl W0.heap.size 3 i2 _ 1 8 Tryz.underlying27 hi2 hz0 hz1 hz2 rfl (by decide) (.slice av m cv) m ((nats xs).map iv) rfl HOA.out (some ⟨wr.heap.size, 0, none⟩) 1 1 [.int .i64 (k : Int)] rfl rfl HRL.out (by intro u hu; simp at hu; subst hu; rfl) (by simp only [maxLen]; omega) (by omega) HSA.out ?_; intro v2 w3 hown hg1 hat1; have HB2 := hide (HBA.out.grown hg1 HSA.out (fun q hq => (ownG_lt HOA.out hq).1)); have HO2 : Hid (w3.ownsRow W0.heap.size 3 1 v2 (xs ++ [k]).length ((nats (xs ++ [k])).map iv)) := hide (by rw [List.length_append, ← HM.out]; unfold nats at hown ⊢; rw [List.map_append, List.map_append]; exact hown); clear hown hg1 hat1 s0 s1 s2 s3 s4 s5 s6; obtain ⟨s0, s1, s2, s3, s4, s5, s6⟩ := HC.out.below HB2.out))
      clear s0 s1 s2 s3 s4 s5 s6
      refine (HHD.out k x _ HXX.out HB2.out).mono ?_
      rintro e w4 ⟨rfl, hb4⟩
      have HB4 := hide (HB2.out.trans (hb4.mono HB2.out.size))
      have HO4 := hide (ownG_below HO2.out hb4)
      clear hb4
      go_wp2
      go_roundw
      case rel => exact ⟨x, xs ++ [k], rfl, by omega, by omega, HX2, HO4, HB4⟩
      case measure => simp [intOf]; exact HMS.out
end Go.Proofs.YtbpkclopcoaikaaGreatDoor
