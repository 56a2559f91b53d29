/- The walk of depend.Path, at a forest. -/
import Derived.Test.YtbpkclopcoaikaaGreatDoorXeWm
namespace Go.Proofs.YtbpkclopcoaikaaGreatDoor
open Go.RowKit
set_option linter.unusedVariables false
set_option linter.unusedSimpArgs false
section
variable {p : List Int} {r : Nat → Nat}
/-- One step of the way is the parent. -/
theorem way_par (hF : Forest p r) : ∀ (t i v y : Nat), i < p.length → (wayU p r i)[t]? = some v → (wayU p r i)[t + 1]? = some y → p[v]? = some (y : Int)
  | 0, i, v, y, hi, h, h' => by
    have hx := List.getElem?_eq_getElem hi
    rcases show p[i] < 0 ∨ 0 ≤ p[i] by omega with h0 | h0
    · rw [wayU_root hF hx h0] at h'
      simp at h'
    · have hp : Par p p[i].toNat i := by unfold Par; rw [hx, Int.toNat_of_nonneg h0]
      have hk := hp.ltk hF
      rw [wayU_up hF hp] at h h'
      rw [List.getElem?_cons_succ, wayU_cons hF hk] at h'
      simp at h h'
      subst h h'
      exact hp
  | t + 1, i, v, y, hi, h, h' => by
    have hx := List.getElem?_eq_getElem hi
    rcases show p[i] < 0 ∨ 0 ≤ p[i] by omega with h0 | h0
    · rw [wayU_root hF hx h0] at h
      simp at h
    · have hp : Par p p[i].toNat i := by unfold Par; rw [hx, Int.toNat_of_nonneg h0]
      rw [wayU_up hF hp, List.getElem?_cons_succ] at h h'
      exact way_par hF t _ v y (hp.ltk hF) h h'
/-- The last of the way has no parent. -/
theorem way_last (hF : Forest p r) {i v : Nat} {x : Int} (hi : i < p.length) (h : (wayU p r i)[r i]? = some v) (hx : p[v]? = some x) : x < 0 := by
  have h1 := (wayU_at hF _ i v hi h).2.1
  rcases show x < 0 ∨ 0 ≤ x by omega with h0 | h0
  · exact h0
  · have := hF.step x.toNat v (by unfold Par; rw [hx, Int.toNat_of_nonneg h0])
    omega
theorem nats_at {l : List Nat} {t y : Nat} (h : l[t]? = some y) : (nats l)[t]? = some (y : Int) := by
  unfold nats
  rw [List.getElem?_map, h]
  rfl
/-- The way up from a to y and down to b. -/
def pathL (p : List Int) (r : Nat → Nat) (a b y : Nat) : List Nat := (wayU p r a).take (r a - r y + 1) ++ ((wayU p r b).take (r b - r y)).reverse
/-- The same, down to the j-th of the way from b alone. -/
def pathJ (A B : List Nat) (t s j : Nat) : List Nat := A.take (t + 1) ++ ((B.take s).drop j).reverse
theorem pathJ_all (A B : List Nat) (t s : Nat) : pathJ A B t s s = A.take (t + 1) := by
  unfold pathJ
  rw [List.drop_eq_nil_of_le (by rw [List.length_take]; omega)]
  simp
theorem pathJ_len {A B : List Nat} {t s j : Nat} (ht : t < A.length) (hs : s ≤ B.length) (hj : j ≤ s) : (pathJ A B t s j).length = t + 1 + (s - j) := by
  unfold pathJ
  simp
  omega
theorem pathJ_step {A B : List Nat} {t s j v : Nat} (hj : j < s) (hv : B[j]? = some v) : pathJ A B t s j = pathJ A B t s (j + 1) ++ [v] := by
  unfold pathJ
  have h1 : (B.take s)[j]? = some v := by rw [List.getElem?_take, if_pos hj]; exact hv
  have hl := (List.getElem?_eq_some_iff.1 h1)
  rw [List.append_assoc, ← List.reverse_cons, List.drop_eq_getElem_cons hl.1, hl.2]
end
/-- What depend.Path returns. -/
def PathP (p : List Int) (r : Nat → Nat) (a b : Nat) (w : World) (e : Ending) (w' : World) : Prop :=
  Below w.heap.size w w' ∧ ((Lca p a b (-1) ∧ e = .returned (.tuple #[.slice none 0 0, .int .i64 11])) ∨ ∃ y s m k, Lca p a b ((y : Nat) : Int) ∧ e = .returned (.tuple #[.slice s m k, .int .i64 0]) ∧ m ≤ k ∧ k ≤ maxLen ∧ IsI w' s m (nats (pathL p r a b y)))
set_option maxHeartbeats 8000000 in
set_option maxRecDepth 100000 in
theorem dpath_any (ad : Option Addr) (n cap : Nat) (p : List Int) (r : Nat → Nat) (a b : Nat) (w : World) (h : IsI w ad n p) (hc : n ≤ cap) (hcm : cap ≤ maxLen) (hm : n ≤ 4096) (hF : Forest p r) (ha : a < n) (hb : b < n) :
    Calls Tryz.prog 17 #[.slice ad n cap, .int .i64 (a : Int), .int .i64 (b : Int)] w (PathP p r a b w) := by
  obtain ⟨i2, hi2, hz0, hz1, hz2⟩ := info_parts info_int
  have HI := hide h
  have HN := hide h.1
  have hap : a < p.length := by rw [← h.1]; exact ha
  have hbp : b < p.length := by rw [← h.1]; exact hb
  have HAB := hide (And.intro hap hbp)
  have HLA := hide (wayU_len hF _ a rfl hap)
  have HLB := hide (wayU_len hF _ b rfl hbp)
  have HDP := hide (show r a < n ∧ r b < n by rw [h.1]; exact ⟨forest_deep hF hap, forest_deep hF hbp⟩)
  have HF := hide hF
  have HU := hide (usable_any ad n cap p r a w h hc hcm hm hF ha)
  have hb0 : ¬ (b : Int) < 0 := by omega
  have hbn : ¬ (n : Int) ≤ (b : Int) := by omega
  clear h hF
  go_enter Tryz.func17, Tryz.ntmps17
  go_wp2_with fail
  refine wp_scope_straight ?_
  go_wp2_with fail
  refine HU.out.mono ?_
  rintro e w1 ⟨rfl, hb1⟩
  have HE1 := hide hb1
  have HW1 := hide (dway_any ad n cap p r a w1 (HI.out.below hb1) hm HF.out ha)
  clear hb1 HU
  go_wp2_with fail
  refine HW1.out.mono ?_
  rintro e w2 ⟨aA, mA, cA, rfl, hmA, hOA, hb2⟩
  have HE2 := hide (HE1.out.trans (hb2.mono HE1.out.size))
  have HMA := hide hmA
  have HOA := hide hOA
  have HW2 := hide (dway_any ad n cap p r b w2 (HI.out.below HE2.out) hm HF.out hb)
  have hm4 : mA ≤ 4096 := by have := HDP.out; omega
  clear hb2 HW1 hmA hOA
  go_wp2_with fail
  refine HW2.out.mono ?_
  rintro e w3 ⟨aB, mB, cB, rfl, hmB, hOB, hb3⟩
  have HE3 := hide (HE2.out.trans (hb3.mono HE2.out.size))
  have HMB := hide hmB
  have HOB := hide hOB
  have HOA3 := hide (own_below HOA.out hb3)
  have hm5 : mB ≤ 4096 := by have := HDP.out; omega
  clear hb3 HW2 hmB hOB
  have HMA2 := hide (show mA = (nats (wayU p r a)).length by rw [nats_len, HLA.out, HMA.out])
  have HMB2 := hide (show mB = (nats (wayU p r b)).length by rw [nats_len, HLB.out, HMB.out])
  obtain ⟨gA, curA, rfl, hgA, hgA2, hcA, hcA2, hgA3, hgA4⟩ := ownG_inv HOA3.out (by rw [HMA.out]; omega)
  obtain ⟨gB, curB, rfl, hgB, hgB2, hcB, hcB2, hgB3, hgB4⟩ := ownG_inv HOB.out (by rw [HMB.out]; omega)
  have HGA := hide (show gA < w2.heap.size from (ownG_lt HOA.out rfl).2)
  have HNE := hide (show gA ≠ gB from by have := HGA.out; omega)
  have HGA0 := hide hgA
  have hcAi : (mA : Int) ≤ (cA : Int) := by omega
  have hcBi : (mB : Int) ≤ (cB : Int) := by omega
  clear hgA hgA2 hgA3 hgA4 hgB hgB2 hgB3 hgB4 curA curB
  have HIA : Hid (IsI w3 (some ⟨gA, 0, none⟩) mA (nats (wayU p r a))) := hide (by
    obtain ⟨a', c', hv, _, _, hi⟩ := own_isI HOA3.out HMA2.out
    injection hv with hv1 _ hv2
    subst hv1
    exact hi)
  have HIB : Hid (IsI w3 (some ⟨gB, 0, none⟩) mB (nats (wayU p r b)) ∧ mB ≤ cB ∧ cB ≤ maxLen) := hide (by
    obtain ⟨a', c', hv, h1, h2, hi⟩ := own_isI HOB.out HMB2.out
    injection hv with hv1 _ hv2
    subst hv1 hv2
    exact ⟨hi, h1, h2⟩)
  have HI3 := hide (HI.out.below HE3.out)
  go_wp2_with fail
  refine wp_label ?_
  go_wp2_with fail
  go_loopw [8, 9, 37] (fun av bv kv wr => ∃ t : Nat, av = .slice (some ⟨gA, 0, none⟩) mA cA ∧ bv = .slice (some ⟨gB, 0, none⟩) mB cB ∧ kv = .int .i64 (t : Int) ∧ t ≤ mA ∧ Hid (∀ t', t' < t → ∀ y, (wayU p r a)[t']? = some y → y ∉ wayU p r b) ∧ Hid (wr = w3)) (fun _ _ kv _ => mA - (intOf kv).toNat)
  case atStart => exact ⟨0, rfl, rfl, rfl, Nat.zero_le _, hide (fun t' h => absurd h (by omega)), hide rfl⟩
  case round =>
    obtain ⟨t, rfl, rfl, rfl, ht, HNO, HE⟩ := hrel
    obtain rfl := HE.out
    clear HE
    by_cases htm : t < mA
    · have hti : (t : Int) < (mA : Int) := by omega
      obtain ⟨y, hy⟩ : ∃ y, (wayU p r a)[t]? = some y := ⟨_, List.getElem?_eq_getElem (by rw [HLA.out, ← HMA.out]; exact htm)⟩
      have e0 := own_at_i HOA3.out (nats_at hy) htm
      have HY := hide hy
      clear hy
      go_wp2_with fail
      clear e0
      go_loopw [8, 9, 44] (fun av bv kv wy => ∃ s : Nat, av = .slice (some ⟨gA, 0, none⟩) mA cA ∧ bv = .slice (some ⟨gB, 0, none⟩) mB cB ∧ kv = .int .i64 (s : Int) ∧ s ≤ mB ∧ Hid (∀ s', s' < s → (wayU p r b)[s']? ≠ some y) ∧ Hid (wr = wy)) (fun _ _ kv _ => mB - (intOf kv).toNat)
      case atStart => exact ⟨0, rfl, rfl, rfl, Nat.zero_le _, hide (fun s' h => absurd h (by omega)), hide rfl⟩
      case round =>
        obtain ⟨s, rfl, rfl, rfl, hs, HNS, HE⟩ := hrel
        obtain rfl := HE.out
        clear HE
        by_cases hsm : s < mB
        · have hsi : (s : Int) < (mB : Int) := by omega
          obtain ⟨v, hv⟩ : ∃ v, (wayU p r b)[s]? = some v := ⟨_, List.getElem?_eq_getElem (by rw [HLB.out, ← HMB.out]; exact hsm)⟩
          have f0 := own_at_i HOB.out (nats_at hv) hsm
          by_cases hyv : y = v
          · have he : ((y : Int) != (v : Int)) = false := by rw [bne_eq_false_iff_eq]; omega
            have HL := hide (lca_found HF.out HAB.out.1 HAB.out.2 HY.out HNO.out (by rw [hyv]; exact List.mem_of_getElem? hv))
            have HV := hide (show (wayU p r b)[s]? = some y by rw [hyv]; exact hv)
            clear hv hyv
            go_wp2_with fail
            have q1 : IntKind.i64.wrap ((t : Int) + 1) = (t : Int) + 1 := wrap_ok (by omega) (by omega)
            have q2 : (0 : Int) ≤ (t : Int) + 1 := by omega
            have q3 : ((t : Int) + 1).toNat = t + 1 := by omega
            have q4 : (t : Int) + 1 ≤ (cA : Int) := by omega
            have q5 : (s : Int) ≤ (cB : Int) := by omega
            go_quiet (fail)
            clear q1 q2 q3 q4 q5 f0
            obtain ⟨w5, hw5⟩ : ∃ W, W = wr.drewN nq := ⟨_, rfl⟩
            have hb5 : Below wr.heap.size wr w5 := by rw [hw5]; exact bl_drewN (bl_refl wr) nq
            have HE5 := hide (HE3.out.trans (hb5.mono HE3.out.size))
            have HOA5 := hide (own_below HOA3.out hb5)
            have HOB5 := hide (own_below HOB.out hb5)
            have HI5 := hide (HI3.out.below hb5)
            rw [← hw5]
            clear hw5 hb5 HOA HOA3 HOB HIA HIB HI3 HI HE3
            have HTS := hide (show t = r a - r y ∧ s = r b - r y by
              have h1 := (wayU_at HF.out t a y HAB.out.1 HY.out).2.1
              have h2 := (wayU_at HF.out s b y HAB.out.2 HV.out).2.1
              omega)
            have hpJ0 : (wayU p r a).take (t + 1) = pathJ (wayU p r a) (wayU p r b) t s s := (pathJ_all _ _ _ _).symm
            have HOA6 := hide (show w5.ownsRow w1.heap.size 3 1 (.slice (some ⟨gA, 0, none⟩) (t + 1) cA) (t + 1 + (s - s)) ((nats (pathJ (wayU p r a) (wayU p r b) t s s)).map iv) by
              have h1 := ownG_take HOA5.out (i := t + 1) (by omega)
              rw [Nat.mul_one, ← List.map_take] at h1
              rw [Nat.sub_self, Nat.add_zero, ← hpJ0, show nats ((wayU p r a).take (t + 1)) = (nats (wayU p r a)).take (t + 1) from List.map_take]
              exact h1)
            have HNB := hide (show (Value.slice (some ⟨gA, 0, none⟩) (t + 1) cA).ownBlock ≠ some gB by intro h; injection h with h; exact HNE.out h)
            clear hpJ0
            by_cases hs0 : s = 0
            · have q1 : decide ((0 : Int) < (s : Int)) = false := by simp; omega
              go_wp2_with fail
              go_quiet (fail)
              clear q1
              obtain ⟨w6, hw6⟩ : ∃ W, W = w5.drewN nq := ⟨_, rfl⟩
              have hb6 : Below w5.heap.size w5 w6 := by rw [hw6]; exact bl_drewN (bl_refl w5) nq
              have HE6 := hide (HE5.out.trans (hb6.mono HE5.out.size))
              have HOA7 := hide (own_below HOA6.out hb6)
              have HOB7 := hide (own_below HOB5.out hb6)
              have HK0 : Hid (((((s : Int) - 1) : Int) + 1).toNat = s) := hide (by omega)
              clear hb6 HOA6 HOA5 HOB5 HI5 HE5 hs0
              go_wp2_with fail
              rw [← hw6]
              clear hw6
              go_loopw [8, 14] (fun av kv wr => ∃ k : Int, kv = .int .i64 k ∧ -1 ≤ k ∧ k < s ∧ Hid (wr.ownsRow w1.heap.size 3 1 av (t + 1 + (s - (k + 1).toNat)) ((nats (pathJ (wayU p r a) (wayU p r b) t s (k + 1).toNat)).map iv)) ∧ Hid (av.ownBlock ≠ some gB) ∧ Hid (wr.ownsRow w2.heap.size 3 1 (.slice (some ⟨gB, 0, none⟩) mB cB) mB ((nats (wayU p r b)).map iv)) ∧ Hid (Below w.heap.size w wr)) (fun _ kv _ => (intOf kv + 1).toNat)
              case atStart => exact ⟨(s : Int) - 1, rfl, by omega, by omega, hide (by rw [HK0.out]; exact HOA7.out), HNB, HOB7, HE6⟩
              case round =>
                obtain ⟨k, rfl, hk0, hks, HO, HNK, HOC, HEk⟩ := hrel
                obtain ⟨m, hm⟩ : ∃ m, m = t + 1 + (s - (k + 1).toNat) := ⟨_, rfl⟩
                have hO := HO.out
                rw [← hm] at hO
                have HM := hide hm
                have hmm : m ≤ 8192 := by omega
                have HML := hide (show m = (nats (pathJ (wayU p r a) (wayU p r b) t s (k + 1).toNat)).length by
                  rw [nats_len, pathJ_len (by have := HLA.out; have := HMA.out; omega) (by have := HLB.out; have := HMB.out; omega) (by omega)]
                  exact hm)
                obtain ⟨av, cv, hv, hcc, hcm2, hII⟩ := own_isI hO HML.out
                subst hv
                have HO := hide hO
                have HII := hide (And.intro hcc (And.intro hcm2 hII))
                clear hO hm hcc hcm2 hII
                by_cases hneg : k < 0
                · have hkk : ¬ (0 : Int) ≤ k := by omega
                  have HR := hide (show pathJ (wayU p r a) (wayU p r b) t s (k + 1).toNat = pathL p r a b y by
                    rw [show (k + 1).toNat = 0 by omega]
                    unfold pathJ pathL
                    rw [← HTS.out.1, ← HTS.out.2, List.drop_zero])
                  go_wp2
                  try simp only [Exit.noGoto]
                  go_ret2
                  exact ⟨HEk.out, .inr ⟨y, av, m, cv, HL.out, rfl, HII.out.1, HII.out.2.1, by rw [← HR.out]; exact HII.out.2.2⟩⟩
                · obtain ⟨k, rfl⟩ := Int.eq_ofNat_of_zero_le (show 0 ≤ k by omega)
                  have hkk : (0 : Int) ≤ (k : Int) := by omega
                  have hksi : (k : Int) < (s : Int) := by omega
                  obtain ⟨x, hx⟩ : ∃ x, (wayU p r b)[k]? = some x := ⟨_, List.getElem?_eq_getElem (by rw [HLB.out, ← HMB.out]; omega)⟩
                  have f1 := own_at_i HOC.out (nats_at hx) (by omega)
                  have HPJ := hide (show (nats (pathJ (wayU p r a) (wayU p r b) t s ((k : Int) + 1).toNat)).map iv ++ [.int .i64 (x : Int)] = (nats (pathJ (wayU p r a) (wayU p r b) t s (((k : Int) - 1) + 1).toNat)).map iv by
                    rw [show ((k : Int) + 1).toNat = k + 1 by omega, show (((k : Int) - 1) + 1).toNat = k by omega, pathJ_step (by omega) hx]
                    unfold nats
                    rw [List.map_append, List.map_append]
                    rfl)
                  have HMN := hide (show m + 1 = t + 1 + (s - (((k : Int) - 1) + 1).toNat) by have := HM.out; omega)
                  have HRL := hide (rd_lit wr #[.int .i64 (x : Int)] 3 (0, 0))
                  have HBA := hide (show Below w.heap.size w (wr.alloc (.cells #[.int .i64 (x : Int)] 3 (0, 0))) from bl_alloc HEk.out _)
                  have hba := bl_alloc (bl_refl wr) (.cells #[.int .i64 (x : Int)] 3 (0, 0))
                  have HOD := hide (ownG_below HO.out hba)
                  have HOE := hide (ownG_below HOC.out hba)
                  have HSA := hide (show w1.heap.size ≤ (wr.alloc (.cells #[.int .i64 (x : Int)] 3 (0, 0))).heap.size by
                    have h1 := (ownG_lt HOE.out (k := gB) rfl)
                    have h2 := HGA.out
                    have h3 := HGA0.out
                    omega)
                  clear hx hba
                  go_wp2_with (at_builtin; go_loud (refine wpList_append_rd _ rfl (.tmp 89) (.tmp 94) 27 rfl w1.heap.size 3 i2 _ 1 8 Tryz.underlying27 hi2 hz0 hz1 hz2 rfl (by decide) (.slice av m cv) m _ rfl HOD.out (some ⟨wr.heap.size, 0, none⟩) 1 1 [.int .i64 (x : Int)] rfl rfl HRL.out (by intro u hu; simp at hu; subst hu; rfl) (by simp only [maxLen]; omega) (by omega) HSA.out ?_; intro v2 w8 hown hg1 hat1; have HO8 := hide hown; have HG8 := hide hg1; have HAT := hide hat1; clear hown hg1 hat1))
                  have HO9 : Hid (w8.ownsRow w1.heap.size 3 1 v2 (t + 1 + (s - (((k : Int) - 1) + 1).toNat)) ((nats (pathJ (wayU p r a) (wayU p r b) t s (((k : Int) - 1) + 1).toNat)).map iv)) := hide (by rw [← HMN.out, ← HPJ.out]; exact HO8.out)
                  have HB8 := hide (HBA.out.grown HG8.out HBA.out.size (fun q hq => Nat.le_trans HE1.out.size (ownG_lt HOD.out hq).1))
                  have HOF := hide (ownG_grown HOE.out HG8.out (fun q hq => by injection hq with hq; subst hq; exact HNK.out))
                  have HNK2 : Hid (v2.ownBlock ≠ some gB) := hide (by
                    rcases HAT.out with h | h
                    · rw [h]; exact HNK.out
                    · rw [h]
                      intro h1
                      injection h1 with h1
                      have := (ownG_lt HOE.out (k := gB) rfl).2
                      omega)
                  go_wp2
                  go_roundw
                  case rel => exact ⟨(k : Int) - 1, rfl, by omega, by omega, HO9, HNK2, HOF, HB8⟩
                  case measure => simp [intOf] <;> omega
            · have hs1 : (0 : Int) < (s : Int) := by omega
              have hs2 : 0 < s := by omega
              obtain ⟨v', hv'⟩ : ∃ v', (wayU p r b)[s - 1]? = some v' := ⟨_, List.getElem?_eq_getElem (by rw [HLB.out, ← HMB.out]; omega)⟩
              have hpv := way_par HF.out (s - 1) b v' y HAB.out.2 hv' (by rw [Nat.sub_add_cancel (by omega)]; exact HV.out)
              have hvn : v' < n := by have := (wayU_at HF.out (s - 1) b v' HAB.out.2 hv').2.2; rw [HN.out]; exact this
              obtain ⟨bh, oh, xh, had, hbh, hxh, e2⟩ := HI5.out.at_ hvn
              subst had
              rw [hpv] at hxh
              injection hxh with hxh
              subst hxh
              have e1 := own_at_i HOB5.out (nats_at hv') (by omega)
              have e3 := own_at_i HOA5.out (nats_at HY.out) htm
              clear hbh hpv hv'
              have q1 : IntKind.i64.wrap ((s : Int) - 1) = (s : Int) - 1 := wrap_ok (by omega) (by omega)
              have q2 : (0 : Int) ≤ (s : Int) - 1 := by omega
              have q3 : ((s : Int) - 1).toNat = s - 1 := by omega
              have q4 : (v' : Int) < (n : Int) := by omega
              have q5 : IntKind.i64.wrap (t : Int) = (t : Int) := wrap_ok (by omega) (by omega)
              have q6 : (s : Int) - 1 < (s : Int) := by omega
              go_wp2_with fail
              go_quiet (fail)
              clear q1 q2 q3 q4 q5 q6 e1 e2 e3
              obtain ⟨w6, hw6⟩ : ∃ W, W = w5.drewN nq := ⟨_, rfl⟩
              have hb6 : Below w5.heap.size w5 w6 := by rw [hw6]; exact bl_drewN (bl_refl w5) nq
              have HE6 := hide (HE5.out.trans (hb6.mono HE5.out.size))
              have HOA7 := hide (own_below HOA6.out hb6)
              have HOB7 := hide (own_below HOB5.out hb6)
              have HK0 : Hid (((((s : Int) - 1) : Int) + 1).toNat = s) := hide (by omega)
              clear hb6 HOA6 HOA5 HOB5 HI5 HE5 hs0
              go_wp2_with fail
              rw [← hw6]
              clear hw6
              go_loopw [8, 14] (fun av kv wr => ∃ k : Int, kv = .int .i64 k ∧ -1 ≤ k ∧ k < s ∧ Hid (wr.ownsRow w1.heap.size 3 1 av (t + 1 + (s - (k + 1).toNat)) ((nats (pathJ (wayU p r a) (wayU p r b) t s (k + 1).toNat)).map iv)) ∧ Hid (av.ownBlock ≠ some gB) ∧ Hid (wr.ownsRow w2.heap.size 3 1 (.slice (some ⟨gB, 0, none⟩) mB cB) mB ((nats (wayU p r b)).map iv)) ∧ Hid (Below w.heap.size w wr)) (fun _ kv _ => (intOf kv + 1).toNat)
              case atStart => exact ⟨(s : Int) - 1, rfl, by omega, by omega, hide (by rw [HK0.out]; exact HOA7.out), HNB, HOB7, HE6⟩
              case round =>
                obtain ⟨k, rfl, hk0, hks, HO, HNK, HOC, HEk⟩ := hrel
                obtain ⟨m, hm⟩ : ∃ m, m = t + 1 + (s - (k + 1).toNat) := ⟨_, rfl⟩
                have hO := HO.out
                rw [← hm] at hO
                have HM := hide hm
                have hmm : m ≤ 8192 := by omega
                have HML := hide (show m = (nats (pathJ (wayU p r a) (wayU p r b) t s (k + 1).toNat)).length by
                  rw [nats_len, pathJ_len (by have := HLA.out; have := HMA.out; omega) (by have := HLB.out; have := HMB.out; omega) (by omega)]
                  exact hm)
                obtain ⟨av, cv, hv, hcc, hcm2, hII⟩ := own_isI hO HML.out
                subst hv
                have HO := hide hO
                have HII := hide (And.intro hcc (And.intro hcm2 hII))
                clear hO hm hcc hcm2 hII
                by_cases hneg : k < 0
                · have hkk : ¬ (0 : Int) ≤ k := by omega
                  have HR := hide (show pathJ (wayU p r a) (wayU p r b) t s (k + 1).toNat = pathL p r a b y by
                    rw [show (k + 1).toNat = 0 by omega]
                    unfold pathJ pathL
                    rw [← HTS.out.1, ← HTS.out.2, List.drop_zero])
                  go_wp2
                  try simp only [Exit.noGoto]
                  go_ret2
                  exact ⟨HEk.out, .inr ⟨y, av, m, cv, HL.out, rfl, HII.out.1, HII.out.2.1, by rw [← HR.out]; exact HII.out.2.2⟩⟩
                · obtain ⟨k, rfl⟩ := Int.eq_ofNat_of_zero_le (show 0 ≤ k by omega)
                  have hkk : (0 : Int) ≤ (k : Int) := by omega
                  have hksi : (k : Int) < (s : Int) := by omega
                  obtain ⟨x, hx⟩ : ∃ x, (wayU p r b)[k]? = some x := ⟨_, List.getElem?_eq_getElem (by rw [HLB.out, ← HMB.out]; omega)⟩
                  have f1 := own_at_i HOC.out (nats_at hx) (by omega)
                  have HPJ := hide (show (nats (pathJ (wayU p r a) (wayU p r b) t s ((k : Int) + 1).toNat)).map iv ++ [.int .i64 (x : Int)] = (nats (pathJ (wayU p r a) (wayU p r b) t s (((k : Int) - 1) + 1).toNat)).map iv by
                    rw [show ((k : Int) + 1).toNat = k + 1 by omega, show (((k : Int) - 1) + 1).toNat = k by omega, pathJ_step (by omega) hx]
                    unfold nats
                    rw [List.map_append, List.map_append]
                    rfl)
                  have HMN := hide (show m + 1 = t + 1 + (s - (((k : Int) - 1) + 1).toNat) by have := HM.out; omega)
                  have HRL := hide (rd_lit wr #[.int .i64 (x : Int)] 3 (0, 0))
                  have HBA := hide (show Below w.heap.size w (wr.alloc (.cells #[.int .i64 (x : Int)] 3 (0, 0))) from bl_alloc HEk.out _)
                  have hba := bl_alloc (bl_refl wr) (.cells #[.int .i64 (x : Int)] 3 (0, 0))
                  have HOD := hide (ownG_below HO.out hba)
                  have HOE := hide (ownG_below HOC.out hba)
                  have HSA := hide (show w1.heap.size ≤ (wr.alloc (.cells #[.int .i64 (x : Int)] 3 (0, 0))).heap.size by
                    have h1 := (ownG_lt HOE.out (k := gB) rfl)
                    have h2 := HGA.out
                    have h3 := HGA0.out
                    omega)
                  clear hx hba
                  go_wp2_with (at_builtin; go_loud (refine wpList_append_rd _ rfl (.tmp 89) (.tmp 94) 27 rfl w1.heap.size 3 i2 _ 1 8 Tryz.underlying27 hi2 hz0 hz1 hz2 rfl (by decide) (.slice av m cv) m _ rfl HOD.out (some ⟨wr.heap.size, 0, none⟩) 1 1 [.int .i64 (x : Int)] rfl rfl HRL.out (by intro u hu; simp at hu; subst hu; rfl) (by simp only [maxLen]; omega) (by omega) HSA.out ?_; intro v2 w8 hown hg1 hat1; have HO8 := hide hown; have HG8 := hide hg1; have HAT := hide hat1; clear hown hg1 hat1))
                  have HO9 : Hid (w8.ownsRow w1.heap.size 3 1 v2 (t + 1 + (s - (((k : Int) - 1) + 1).toNat)) ((nats (pathJ (wayU p r a) (wayU p r b) t s (((k : Int) - 1) + 1).toNat)).map iv)) := hide (by rw [← HMN.out, ← HPJ.out]; exact HO8.out)
                  have HB8 := hide (HBA.out.grown HG8.out HBA.out.size (fun q hq => Nat.le_trans HE1.out.size (ownG_lt HOD.out hq).1))
                  have HOF := hide (ownG_grown HOE.out HG8.out (fun q hq => by injection hq with hq; subst hq; exact HNK.out))
                  have HNK2 : Hid (v2.ownBlock ≠ some gB) := hide (by
                    rcases HAT.out with h | h
                    · rw [h]; exact HNK.out
                    · rw [h]
                      intro h1
                      injection h1 with h1
                      have := (ownG_lt HOE.out (k := gB) rfl).2
                      omega)
                  go_wp2
                  go_roundw
                  case rel => exact ⟨(k : Int) - 1, rfl, by omega, by omega, HO9, HNK2, HOF, HB8⟩
                  case measure => simp [intOf] <;> omega
          · have he : ((y : Int) != (v : Int)) = true := by rw [bne_iff_ne]; omega
            have HNS2 : Hid (∀ s', s' < s + 1 → (wayU p r b)[s']? ≠ some y) := hide (fun s' h => by
              rcases Nat.lt_or_ge s' s with h1 | h1
              · exact HNS.out s' h1
              · obtain rfl : s' = s := by omega
                rw [hv]
                intro h2
                injection h2 with h2
                exact hyv h2.symm)
            clear hv hyv
            go_wp2
            go_roundw
            case rel => exact ⟨s + 1, rfl, rfl, by go_num, by omega, HNS2, by first | exact hide rfl | exact hide trivial⟩
            case measure => simp [intOf]; omega
        · have hsi : ¬ (s : Int) < (mB : Int) := by omega
          have HNO2 : Hid (∀ t', t' < t + 1 → ∀ y, (wayU p r a)[t']? = some y → y ∉ wayU p r b) := hide (fun t' h y' hy' => by
            rcases Nat.lt_or_ge t' t with h1 | h1
            · exact HNO.out t' h1 y' hy'
            · obtain rfl : t' = t := by omega
              rw [HY.out] at hy'
              injection hy' with hy'
              subst hy'
              intro hm
              obtain ⟨q, hq⟩ := List.mem_iff_getElem?.1 hm
              have hql := (List.getElem?_eq_some_iff.1 hq).1
              have := HMB2.out
              rw [nats_len] at this
              exact HNS.out q (by omega) hq)
          go_wp2
          go_roundw
          case rel => exact ⟨t + 1, rfl, rfl, by go_num, by omega, HNO2, by first | exact hide rfl | exact hide trivial⟩
          case measure => simp [intOf]; omega
    · have hti : ¬ (t : Int) < (mA : Int) := by omega
      have HL := hide (lca_none HF.out HAB.out.1 HAB.out.2 (fun y hy => by
        obtain ⟨q, hq⟩ := List.mem_iff_getElem?.1 hy
        have hql := (List.getElem?_eq_some_iff.1 hq).1
        have := HMA2.out
        rw [nats_len] at this
        exact HNO.out q (by omega) y hq))
      have hA1 := HMA.out
      have hB1 := HMB.out
      obtain ⟨v', hv'⟩ : ∃ v', (wayU p r b)[mB - 1]? = some v' := ⟨_, List.getElem?_eq_getElem (by rw [HLB.out]; omega)⟩
      obtain ⟨y', hy'⟩ : ∃ y', (wayU p r a)[mA - 1]? = some y' := ⟨_, List.getElem?_eq_getElem (by rw [HLA.out]; omega)⟩
      have hvp := (wayU_at HF.out (mB - 1) b v' HAB.out.2 hv').2.2
      have hvn : v' < n := by rw [HN.out]; exact hvp
      obtain ⟨bh, oh, xh, had, hbh, hxh, e2⟩ := HI3.out.at_ hvn
      subst had
      have hxn : xh < 0 := way_last HF.out HAB.out.2 (by rw [show r b = mB - 1 by omega]; exact hv') hxh
      have e1 := own_at_i HOB.out (nats_at hv') (by omega)
      have e3 := own_at_i HOA3.out (nats_at hy') (by omega)
      have e4 : (xh != (y' : Int)) = true := by rw [bne_iff_ne]; omega
      have hs1 : (0 : Int) < (mB : Int) := by omega
      have hs2 : 0 < mB := by omega
      have q1 : IntKind.i64.wrap ((mB : Int) - 1) = (mB : Int) - 1 := wrap_ok (by omega) (by omega)
      have q2 : (0 : Int) ≤ (mB : Int) - 1 := by omega
      have q3 : ((mB : Int) - 1).toNat = mB - 1 := by omega
      have q4 : (v' : Int) < (n : Int) := by omega
      have q5 : IntKind.i64.wrap ((mA : Int) - 1) = (mA : Int) - 1 := wrap_ok (by omega) (by omega)
      have q6 : (mB : Int) - 1 < (mB : Int) := by omega
      have q7 : (0 : Int) ≤ (mA : Int) - 1 := by omega
      have q8 : ((mA : Int) - 1).toNat = mA - 1 := by omega
      have q9 : (mA : Int) - 1 < (mA : Int) := by omega
      clear hA1 hB1 hv' hy' hvp hbh hxh hxn
      go_wp2_with fail
      go_quiet (fail)
      clear q1 q2 q3 q4 q5 q6 q7 q8 q9 e1 e2 e3
      have HEq := hide (HE3.out.trans ((bl_drewN (bl_refl wr) nq).mono HE3.out.size))
      go_wp2
      try simp only [Exit.noGoto]
      go_ret2
      exact ⟨HEq.out, .inl ⟨HL.out, rfl⟩⟩
end Go.Proofs.YtbpkclopcoaikaaGreatDoor
