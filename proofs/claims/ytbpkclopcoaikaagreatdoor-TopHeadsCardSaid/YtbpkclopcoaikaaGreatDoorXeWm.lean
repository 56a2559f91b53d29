/- The walk of treerel.Meet, at a forest. -/
import Derived.Test.YtbpkclopcoaikaaGreatDoorXdWm
import Derived.Test.YtbpkclopcoaikaaGreatDoorXEm
import Derived.Scope
namespace Go.Proofs.YtbpkclopcoaikaaGreatDoor
open Go.RowKit
set_option linter.unusedVariables false
set_option linter.unusedSimpArgs false
theorem own_litT (w : World) (C : Array Value) (e : TypeId) (n : Nat) (hn : n = C.size) (hm : n ≤ maxLen) : (w.alloc (.cells C e)).ownsRow w.heap.size e 1 (.slice (some ⟨w.heap.size, 0, none⟩) n n) n C.toList := by
  subst hn
  exact ⟨by simp, .inr ⟨w.heap.size, C.size, C, rfl, Nat.le_refl _, heap_alloc_new w _, Nat.le_refl _, hm, by simp, by rw [Nat.mul_one]; exact List.take_of_length_le (by simp)⟩⟩
theorem wayU_cons {p : List Int} {r : Nat → Nat} (hF : Forest p r) {i : Nat} (hi : i < p.length) : wayU p r i = i :: (wayU p r i).tail := by
  have hx := List.getElem?_eq_getElem hi
  rw [← restU_nat, restU_step hF hx]
  rfl
set_option maxHeartbeats 8000000 in
set_option maxRecDepth 100000 in
theorem rmeet_any (c : Cv) (p : List Int) (r : Nat → Nat) (a b : Nat) (w : World) (h : IsHd w c p) (hn : c.T.n ≤ 4096) (hF : Forest p r) (ha : a < c.T.n) (hb : b < c.T.n) :
    Calls Tryz.prog 16 #[c.v, .int .i64 (a : Int), .int .i64 (b : Int)] w fun e w' => ∃ z, e = .returned (.int .i64 z) ∧ Lca p a b z ∧ Below w.heap.size w w' := by
  obtain ⟨i2, hi2, hz0, hz1, hz2⟩ := info_parts info_int
  have hap : a < p.length := by rw [← h.len]; exact ha
  have hbp : b < p.length := by rw [← h.len]; exact hb
  have HAB := hide (And.intro hap hbp)
  have HLA := hide (wayU_len hF _ a rfl hap)
  have HLB := hide (wayU_len hF _ b rfl hbp)
  have HDP := hide (show r a < c.T.n ∧ r b < c.T.n by rw [h.len]; exact ⟨forest_deep hF hap, forest_deep hF hbp⟩)
  have HF := hide hF
  obtain ⟨W0, hW0⟩ : ∃ W0, W0 = w.alloc c.o := ⟨_, rfl⟩
  have HB := hide (bl_alloc (bl_refl w) c.o)
  have HC := hide (CCells.new w c)
  rw [← hW0] at HB HC
  have HH := hide (h.below HB.out)
  have HTK : Hid (∀ (i : Nat) wx, i < c.T.n → Calls Tryz.prog 25 #[c.v, .int .i64 (i : Int)] wx fun e w' => e = .returned (.bool true) ∧ Below wx.heap.size wx w') := hide (fun i wx hi => token_tok c i wx hi)
  have HUP : Hid (∀ (i : Nat) wx, i < c.T.n → Below W0.heap.size W0 wx → Calls Tryz.prog 15 #[c.v, .int .i64 (i : Int)] wx fun e w' => ∃ a m k, e = .returned (.slice a m k) ∧ m = r i ∧ m ≤ k ∧ k ≤ maxLen ∧ IsI w' a m (nats (wayU p r i).tail) ∧ Below wx.heap.size wx w') := hide (fun i wx hi hx => rup_any c p r i wx (HH.out.below hx) hn hF hi)
  clear h hF
  go_enter Tryz.func16, Tryz.ntmps16
  go_wp2_with fail
  refine wp_scope_straight ?_
  go_wp2_with fail
  rw [← hW0]
  clear hW0
  refine (HTK.out a _ ha).mono ?_
  rintro e w1 ⟨rfl, hb1⟩
  have HE1 := hide hb1
  clear hb1
  obtain ⟨s0, s1, s2, s3, s4, s5, s6⟩ := HC.out.below HE1.out
  go_wp2_with fail
  clear s0 s1 s2 s3 s4 s5 s6
  refine (HTK.out b _ hb).mono ?_
  rintro e w2 ⟨rfl, hb2⟩
  have HE2 := hide (HE1.out.trans (hb2.mono HE1.out.size))
  clear hb2
  have HE2a := hide (bl_alloc HE2.out (.cells #[.int .i64 (b : Int)] 3 (0, 0)))
  obtain ⟨s0, s1, s2, s3, s4, s5, s6⟩ := HC.out.below HE2a.out
  go_wp2_with fail
  clear s0 s1 s2 s3 s4 s5 s6
  refine (HUP.out b _ hb HE2a.out).mono ?_
  rintro e w3 ⟨a3, m3, k3, rfl, hm3, hk3, hk3m, hi3, hb3⟩
  have HM3 := hide hm3
  clear hm3
  have HE3 := hide (HE2a.out.trans (hb3.mono HE2a.out.size))
  have hr3 := (hi3.2)
  have HR3 := hide hr3
  have HN3 := hide (show (nats (wayU p r b).tail).length = m3 from hi3.1.symm)
  have HOB := hide (own_below (own_litT w2 #[.int .i64 (b : Int)] 3 1 rfl (by simp [maxLen])) hb3)
  have hw2 : W0.heap.size ≤ w2.heap.size := HE2.out.size
  have HOB := hide (own_base HOB.out hw2)
  have HWB : Hid ([iv (b : Int)] ++ (nats (wayU p r b).tail).map iv = (nats (wayU p r b)).map iv) := hide (by rw [show nats (wayU p r b) = nats (b :: (wayU p r b).tail) from congrArg nats (wayU_cons HF.out HAB.out.2)]; rfl)
  have hdp : m3 ≤ 4096 := by have h1 := HDP.out; have h2 := HM3.out; omega
  clear hb3 hi3 hr3 hw2
  go_wp2_with (at_builtin; go_loud (refine wpList_append_rd _ rfl (.tmp 24) (.tmp 27) 27 rfl W0.heap.size 3 i2 _ 1 8 Tryz.underlying27 hi2 hz0 hz1 hz2 rfl (by decide) (.slice (some ⟨w2.heap.size, 0, none⟩) 1 1) 1 [.int .i64 (b : Int)] rfl HOB.out a3 m3 k3 ((nats (wayU p r b).tail).map iv) rfl (by rw [List.length_map, HN3.out, Nat.mul_one]) HR3.out (by intro u hu; obtain ⟨z, _, rfl⟩ := List.mem_map.1 hu; rfl) (by simp only [maxLen]; omega) (by omega) HE3.out.size ?_; intro v4 w4 hown hg1 hat1; have HE4 := hide (HE3.out.grown hg1 HE3.out.size (fun q hq => (ownG_lt HOB.out hq).1)); have HO4 := hide hown; have HE4a := hide (bl_alloc HE4.out (.cells #[.int .i64 (a : Int)] 3 (0, 0))); clear hown hg1 hat1; obtain ⟨s0, s1, s2, s3, s4, s5, s6⟩ := HC.out.below HE4a.out))
  clear s0 s1 s2 s3 s4 s5 s6
  have HO4 := hide (show w4.ownsRow W0.heap.size 3 1 v4 (1 + m3) ((nats (wayU p r b)).map iv) by rw [← HWB.out]; exact HO4.out)
  have HMB := hide (show 1 + m3 = (nats (wayU p r b)).length by rw [nats_len, HLB.out, HM3.out]; omega)
  obtain ⟨aB, cB, hvB, hcB, hcBm, hiB⟩ := own_isI HO4.out HMB.out
  subst hvB
  have HIB := hide hiB
  clear hcB hcBm hiB HO4 HWB HR3 HN3 HOB
  refine wp_label ?_
  have hc4 := HC.out.below HE4a.out
  obtain ⟨s0, s1, s2, s3, s4, s5, s6⟩ := hc4
  go_wp2_with fail
  clear s0 s1 s2 s3 s4 s5 s6
  refine (HUP.out a _ ha HE4a.out).mono ?_
  rintro e w5 ⟨a5, m5, k5, rfl, hm5, hk5, hk5m, hi5, hb5⟩
  have HM5 := hide hm5
  have HE5 := hide (HE4a.out.trans (hb5.mono HE4a.out.size))
  have HR5 := hide hi5.2
  have HN5 := hide (show (nats (wayU p r a).tail).length = m5 from hi5.1.symm)
  have hw4 : W0.heap.size ≤ w4.heap.size := HE4.out.size
  have HOA := hide (own_base (own_below (own_litT w4 #[.int .i64 (a : Int)] 3 1 rfl (by simp [maxLen])) hb5) hw4)
  have HWA : Hid ([iv (a : Int)] ++ (nats (wayU p r a).tail).map iv = (nats (wayU p r a)).map iv) := hide (by rw [show nats (wayU p r a) = nats (a :: (wayU p r a).tail) from congrArg nats (wayU_cons HF.out HAB.out.1)]; rfl)
  have HB45 := hide ((bl_trans (bl_alloc (bl_refl w4) (.cells #[.int .i64 (a : Int)] 3 (0, 0))) (hb5.mono (by simp))))
  have hdp5 : m5 ≤ 4096 := by have h1 := HDP.out; have h2 := HM5.out; omega
  clear hb5 hi5 hm5 hw4
  go_wp2_with (at_builtin; go_loud (refine wpList_append_rd _ rfl (.tmp 30) (.tmp 33) 27 rfl W0.heap.size 3 i2 _ 1 8 Tryz.underlying27 hi2 hz0 hz1 hz2 rfl (by decide) (.slice (some ⟨w4.heap.size, 0, none⟩) 1 1) 1 [.int .i64 (a : Int)] rfl HOA.out a5 m5 k5 ((nats (wayU p r a).tail).map iv) rfl (by rw [List.length_map, HN5.out, Nat.mul_one]) HR5.out (by intro u hu; obtain ⟨z, _, rfl⟩ := List.mem_map.1 hu; rfl) (by simp only [maxLen]; omega) (by omega) HE5.out.size ?_; intro v6 w6 hown hg1 hat1; have HE6 := hide (HE5.out.grown hg1 HE5.out.size (fun q hq => (ownG_lt HOA.out hq).1)); have HO6 := hide hown; have HG6 := hide hg1; clear hg1 hat1; obtain ⟨aA, cA, hvA, hcA, hiA⟩ := ownG_form hown; subst hvA; clear hown hcA hiA))
  have HB46 : Hid (Below w4.heap.size w4 w6) := hide (HB45.out.grown HG6.out HB45.out.size (fun q hq => by simp [Value.ownBlock] at hq; omega))
  have HIB6 := hide (HIB.out.below HB46.out)
  have HO6 := hide (show w6.ownsRow W0.heap.size 3 1 (.slice aA (1 + m5) cA) (1 + m5) ((nats (wayU p r a)).map iv) by rw [← HWA.out]; exact HO6.out)
  have HMA := hide (show 1 + m5 = (nats (wayU p r a)).length by rw [nats_len, HLA.out, HM5.out]; omega)
  have HIA6 : Hid (IsI w6 aA (1 + m5) (nats (wayU p r a))) := hide (by
    obtain ⟨a', c', hv, _, _, hi⟩ := own_isI HO6.out HMA.out
    injection hv with hv1 _ hv2
    subst hv1
    exact hi)
  obtain ⟨mA, hmA⟩ : ∃ m, m = 1 + m5 := ⟨_, rfl⟩
  obtain ⟨mB, hmB⟩ : ∃ m, m = 1 + m3 := ⟨_, rfl⟩
  rw [← hmA] at HIA6 HMA ⊢
  rw [← hmB] at HIB6 HMB ⊢
  have hmA4 : mA ≤ 4097 := by omega
  have hmB4 : mB ≤ 4097 := by omega
  clear HB45 HB46 HG6 HIB HO6 HOA HWA HR5 HN5
  go_wp2_with fail
  go_loopw [7, 36] (fun mv kv wr => ∃ t : Nat, mv = .int .i64 (-1) ∧ kv = .int .i64 (t : Int) ∧ t ≤ mA ∧ Hid (∀ t', t' < t → ∀ y, (wayU p r a)[t']? = some y → y ∉ wayU p r b) ∧ Hid (wr = w6)) (fun _ kv _ => mA - (intOf kv).toNat)
  case atStart => exact ⟨0, rfl, rfl, Nat.zero_le _, hide (fun t' h => absurd h (by omega)), hide rfl⟩
  case round =>
    obtain ⟨t, rfl, rfl, ht, HNO, HE⟩ := hrel
    obtain rfl := HE.out
    clear HE
    by_cases htm : t < mA
    · have hti : (t : Int) < (mA : Int) := by omega
      obtain ⟨bA, oA, x, rfl, hbA, hx, e0⟩ := HIA6.out.at_ htm
      have hx' : ∃ y, (wayU p r a)[t]? = some y ∧ x = (y : Int) := by
        unfold nats at hx
        rw [List.getElem?_map, Option.map_eq_some_iff] at hx
        obtain ⟨y, h1, h2⟩ := hx
        exact ⟨y, h1, h2.symm⟩
      obtain ⟨y, hy, rfl⟩ := hx'
      have HY := hide hy
      clear hx hy hbA
      go_wp2_with fail
      clear e0
      go_loopw [7, 42] (fun mv kv wy => ∃ s : Nat, mv = .int .i64 (-1) ∧ kv = .int .i64 (s : Int) ∧ s ≤ mB ∧ Hid (∀ s', s' < s → (wayU p r b)[s']? ≠ some y) ∧ Hid (wr = wy)) (fun _ kv _ => mB - (intOf kv).toNat)
      case atStart => exact ⟨0, rfl, rfl, Nat.zero_le _, hide (fun s' h => absurd h (by omega)), hide rfl⟩
      case round =>
        obtain ⟨s, rfl, rfl, hs, HNS, HE⟩ := hrel
        obtain rfl := HE.out
        clear HE
        by_cases hsm : s < mB
        · have hsi : (s : Int) < (mB : Int) := by omega
          obtain ⟨bB, oB, z, rfl, hbB, hz, f0⟩ := HIB6.out.at_ hsm
          have hz' : ∃ v, (wayU p r b)[s]? = some v ∧ z = (v : Int) := by
            unfold nats at hz
            rw [List.getElem?_map, Option.map_eq_some_iff] at hz
            obtain ⟨v, h1, h2⟩ := hz
            exact ⟨v, h1, h2.symm⟩
          obtain ⟨v, hv, rfl⟩ := hz'
          by_cases hyv : y = v
          · have he : ((y : Int) == (v : Int)) = true := by rw [beq_iff_eq]; omega
            have HL := hide (lca_found HF.out HAB.out.1 HAB.out.2 HY.out HNO.out (by rw [hyv]; exact List.mem_of_getElem? hv))
            clear hz hv hyv
            go_wp2
            simp only [Exit.noGoto]
            go_ret
            exact ⟨_, rfl, HL.out, HB.out.trans (HE6.out.mono HB.out.size)⟩
          · have he : ((y : Int) == (v : Int)) = false := by rw [beq_eq_false_iff_ne]; omega
            have HNS2 : Hid (∀ s', s' < s + 1 → (wayU p r b)[s']? ≠ some y) := hide (fun s' h => by
              rcases Nat.lt_or_ge s' s with h1 | h1
              · exact HNS.out s' h1
              · obtain rfl : s' = s := by omega
                rw [hv]
                intro h2
                injection h2 with h2
                exact hyv h2.symm)
            clear hz hv hyv
            go_wp2
            go_roundw
            case rel => exact ⟨s + 1, rfl, by go_num, by omega, HNS2, by first | exact hide rfl | exact hide trivial⟩
            case measure => simp [intOf]; omega
        · have hsi : ¬ (s : Int) < (mB : Int) := by omega
          have HNO2 : Hid (∀ t', t' < t + 1 → ∀ y, (wayU p r a)[t']? = some y → y ∉ wayU p r b) := hide (fun t' h y' hy' => by
            rcases Nat.lt_or_ge t' t with h1 | h1
            · exact HNO.out t' h1 y' hy'
            · obtain rfl : t' = t := by omega
              rw [HY.out] at hy'
              injection hy' with hy'
              subst hy'
              intro hm
              obtain ⟨q, hq⟩ := List.mem_iff_getElem?.1 hm
              have hql := (List.getElem?_eq_some_iff.1 hq).1
              have := HMB.out
              rw [nats_len] at this
              exact HNS.out q (by omega) hq)
          go_wp2
          go_roundw
          case rel => exact ⟨t + 1, rfl, by go_num, by omega, HNO2, by first | exact hide rfl | exact hide trivial⟩
          case measure => simp [intOf]; omega
    · have hti : ¬ (t : Int) < (mA : Int) := by omega
      have HL := hide (lca_none HF.out HAB.out.1 HAB.out.2 (fun y hy => by
        obtain ⟨q, hq⟩ := List.mem_iff_getElem?.1 hy
        have hql := (List.getElem?_eq_some_iff.1 hq).1
        have := HMA.out
        rw [nats_len] at this
        exact HNO.out q (by omega) y hq))
      go_wp2
      try simp only [Exit.noGoto]
      go_ret
      exact ⟨_, rfl, HL.out, HB.out.trans (HE6.out.mono HB.out.size)⟩
end Go.Proofs.YtbpkclopcoaikaaGreatDoor
