/- The walk of TopConstituents. -/
import Derived.Test.YtbpkclopcoaikaaGreatDoorWaWm
import Derived.Test.YtbpkclopcoaikaaGreatDoorWgWm
namespace Go.Proofs.YtbpkclopcoaikaaGreatDoor
open Go.RowKit
set_option linter.unusedVariables false
set_option linter.unusedSimpArgs false
theorem anc_up {p : List Int} {k i : Nat} : Anc p k i ↔ ∃ m : Nat, p[i]? = some (m : Int) ∧ AncS p k m := by
  constructor
  · intro h
    cases h with
    | one h => exact ⟨k, h, .inl rfl⟩
    | up h h' => exact ⟨_, h, .inr h'⟩
  · rintro ⟨m, h, h'⟩
    rcases h' with rfl | h'
    · exact .one h
    · exact .up h h'
/-- What the way up from node i tells of node k. -/
def UpS (p : List Int) (k i : Nat) (u : Bool) (q : Int) : Prop := Anc p k i ↔ (u = true ∨ ∃ m : Nat, q = (m : Int) ∧ AncS p k m)
theorem UpS.start {p : List Int} {k i : Nat} {x : Int} (h : p[i]? = some x) : UpS p k i false x := by
  unfold UpS
  rw [anc_up]
  constructor
  · rintro ⟨m, h1, h2⟩
    rw [h] at h1
    injection h1 with h1
    exact .inr ⟨m, h1, h2⟩
  · rintro (h1 | ⟨m, rfl, h2⟩)
    · cases h1
    · exact ⟨m, h, h2⟩
theorem UpS.step {p : List Int} {k i m : Nat} {u : Bool} {x : Int} (h : UpS p k i u (m : Int)) (hx : p[m]? = some x) : UpS p k i (u || decide (m = k)) x := by
  unfold UpS at *
  rw [h]
  constructor
  · rintro (h1 | ⟨m', h1, h2⟩)
    · exact .inl (by simp [h1])
    · obtain rfl : m = m' := by omega
      rcases h2 with rfl | h2
      · exact .inl (by simp)
      · obtain ⟨q, h3, h4⟩ := anc_up.1 h2
        rw [hx] at h3
        injection h3 with h3
        exact .inr ⟨q, h3, h4⟩
  · rintro (h1 | ⟨m', rfl, h2⟩)
    · simp at h1
      rcases h1 with h1 | rfl
      · exact .inl h1
      · exact .inr ⟨m, rfl, .inl rfl⟩
    · exact .inr ⟨m, rfl, .inr (anc_up.2 ⟨m', hx, h2⟩)⟩
theorem UpS.done {p : List Int} {k i : Nat} {u : Bool} {q : Int} (h : UpS p k i u q) (hq : q < 0) : u = true ↔ Anc p k i := by
  unfold UpS at h
  rw [h]
  constructor
  · exact .inl
  · rintro (h1 | ⟨m, h1, _⟩)
    · exact h1
    · omega
set_option maxHeartbeats 32000000 in
set_option maxRecDepth 100000 in
theorem topconst_any (c : Cv) (d : Cd) (w : World) (h : IsCo w c d) (hf : CFit c) (hm : MaxL w) : Calls Tryz.prog 4 #[c.v] w fun e w' => e = .returned (.bool true) ∧ Below w.heap.size w w' := by
  obtain ⟨i2, hi2, hz0, hz1, hz2⟩ := info_parts info_int
  have HF := hide hf
  obtain ⟨W0, hW0⟩ : ∃ W0, W0 = w.alloc c.o := ⟨_, rfl⟩
  have HB := hide (bl_alloc (bl_refl w) c.o)
  have HC := hide (CCells.new w c)
  rw [← hW0] at HB HC
  have HI0 := hide (h.below HB.out)
  have HM0 := hide (hm.below HB.out)
  clear h hf hm
  go_enter Tryz.func4, Tryz.ntmps4
  go_wp2_with fail
  rw [← hW0]
  clear hW0
  refine (tiny_any 80 c d _ HI0.out HF.out).mono ?_
  rintro e w1 ⟨t, rfl, hb1, ho1⟩
  have HE1 := hide hb1
  have HD1 := hide (HB.out.trans (hb1.mono HB.out.size))
  have HO1 := hide ho1
  clear hb1 ho1
  cases t
  · go_wp2
    go_ret
    exact ⟨rfl, HD1.out⟩
  have HP := hide (HO1.out rfl)
  have HC1 := hide (HC.out.below HE1.out)
  have HN1 := hide (HI0.out.below HE1.out).N
  have HM1 := hide (HM0.out.below HE1.out)
  obtain ⟨p, hp⟩ : ∃ p, p = d.N.map Nd.p := ⟨_, rfl⟩
  have HPE := hide hp
  have hpl : c.N.n = p.length := by rw [hp, List.length_map]; exact HN1.out.1
  have HPL := hide hpl
  have HNO := hide HP.out.1.N
  have HXO := hide HP.out.1.X
  have HIV : Hid (Ivl p (bN d.N) (eN d.N)) := hide (by rw [hp]; exact nodes_ivl HP.out.1.N)
  have HFo := hide (show Forest p (dep p p.length) by rw [hp]; exact preo_forest (nodes_preo HP.out.1.N))
  have HR : Hid (∀ i, i < c.N.n → dep p p.length i ≤ 4096) := hide (fun i _ => Nat.le_trans (dep_le p _ i) (by have := HP.out.2.2; omega))
  have h40 := HP.out.2.2
  have h80 := HP.out.2.1
  have hTf := HF.out.T
  clear HP HO1
  obtain ⟨cA, cT, cX, cR, ⟨aN, nN, cN⟩, cH, cL⟩ := c
  simp only at *
  generalize hl : d.N = l at *
  generalize d.X = X at *
  clear hp hpl hl HI0 HC HM0
  obtain ⟨s0, s1, s2, s3, s4, s5, s6⟩ := HC1.out
  simp only at s0 s1 s2 s3 s4 s5 s6
  go_wp2_with (at_make; go_loud (refine wpList_make_full _ rfl (.tmp 22) (.tmp 22) 27 rfl w1.heap.size 3 i2 _ 1 Tryz.underlying27 hi2 hz0 hz1 .i64 .i64 _ _ nN rfl rfl rfl rfl (by rw [hz2]; omega) (by simp only [maxLen]; omega) (Nat.le_refl _) ?_); intro w2 hown hg1; rw [made_one _ rfl] at hown; have hb2 : Below w1.heap.size w1 w2 := bl_grown (bl_refl w1) hg1 (fun k h => by cases h); have HO := hide hown; have HBm := hide hb2; have t4 := (HC1.out.below hb2).c4; simp only at t4; clear hown hg1 hb2)
  have HO := hide (show w2.ownsRow w1.heap.size 3 1 (.slice (some ⟨w1.heap.size, 0, none⟩) nN nN) nN ((List.replicate nN (0 : Int)).map iv) by rw [List.map_replicate]; exact HO.out)
  obtain ⟨r0, hr0⟩ : ∃ g, g = w1.heap.size := ⟨_, rfl⟩
  have HZ0 : Hid (PaS l (List.replicate nN (0 : Int)) 0) := hide ⟨by simp [HN1.out.1], fun i h => absurd h (by omega)⟩
  generalize List.replicate nN (0 : Int) = z0 at *
  rw [← hr0] at HO ⊢
  have HR0E := hide hr0
  clear hr0 s0 s1 s2 s3 s4 s5 s6 t4
  go_loopw [27] (fun kv wr => ∃ (k : Nat) (z : List Int), kv = .int .i64 (k : Int) ∧ k ≤ nN ∧ Hid (PaS l z k) ∧ Hid (wr.ownsRow r0 3 1 (.slice (some ⟨r0, 0, none⟩) nN nN) nN (z.map iv)) ∧ Hid (Below w1.heap.size w1 wr)) (fun kv _ => nN - (intOf kv).toNat)
  case atStart => exact ⟨0, z0, rfl, Nat.zero_le _, HZ0, HO, HBm⟩
  case round =>
    obtain ⟨k, z, rfl, hk, HZ, HWk, HBk⟩ := hrel
    by_cases hkn : k < nN
    · have hki : (k : Int) < (nN : Int) := by omega
      obtain ⟨b0, o, ⟨xl, xb, xe, xp⟩, rfl, hbl, hx, e0, e1, e2, e3⟩ := (HN1.out.below HBk.out).at_ hkn
      simp only at e0 e1 e2 e3
      have hb2 := bl_alloc HBk.out (.cells #[.string (bstr xl), .int .i64 xb, .int .i64 xe, .int .i64 xp] 33 (0, 0))
      have hrow := own_below HWk.out (bl_alloc (bl_refl wr) (.cells #[.string (bstr xl), .int .i64 xb, .int .i64 xe, .int .i64 xp] 33 (0, 0)))
      obtain ⟨dv, hdv⟩ : ∃ x, z[k]? = some x := ⟨_, List.getElem?_eq_getElem (by rw [HZ.out.len, ← HN1.out.1]; exact hkn)⟩
      have m1 := own_at_i hrow hdv hkn
      have z1 := own_frz hrow hkn
      have HW7 := hide (own_set_i hrow hkn xp)
      have HX7 := hide (hb2.setCell (p := ⟨r0, k, none⟩) (by rw [HR0E.out]; exact Nat.le_refl _) (.int .i64 xp))
      have HZ7 := hide (HZ.out.next hx)
      clear hb2 hrow hx hdv
      go_wp2
      go_roundw
      case rel => exact ⟨k + 1, z.set k xp, by go_num, by omega, HZ7, HW7, HX7⟩
      case measure => simp [intOf]; omega
    · obtain rfl : k = nN := by omega
      have hki : ¬ (k : Int) < (k : Int) := by omega
      have hzp : z = p := by rw [HPE.out]; exact PaS.all (by rw [← HN1.out.1]; exact HZ.out)
      subst hzp
      obtain ⟨ap, cp, hv, hcp, hcm, hIp⟩ := own_isI HWk.out HPL.out
      injection hv with hv1 _ hv2
      subst hv1 hv2
      have HIp := hide hIp
      clear hIp
      go_wp2_with fail
      refine (assign_any _ _ _ z (dep z z.length) wr HIp.out hcp hcm (by omega) HFo.out HR.out).mono ?_
      rintro e w3 ⟨lb, rfl, hb3, hlb, hlc⟩
      have HX3 := hide (HBk.out.trans (hb3.mono HBk.out.size))
      have HLab : Hid (IsLab w3 (some ⟨lb, 0, none⟩) k z (dep z z.length)) := hide ⟨HPL.out, rd_row hlc⟩
      clear hb3 hlb hlc
      have HN3 := hide (HN1.out.below HX3.out)
      have HM3 := hide (HM1.out.below HX3.out)
      have HC3 := hide (HC1.out.below HX3.out)
      have HD3 := hide (HD1.out.trans (HX3.out.mono HD1.out.size))
      clear HWk HIp HBk HZ HN1 HM1 HC1 HX3 HO HBm HZ0 HR0E
      generalize wr = wr0 at *
      generalize dep z z.length = r at *
      have c4 := HC3.out.c4
      simp only at c4
      have hnn : ((k : Int) != (k : Int)) = false := by simp
      go_wp2_with fail
      clear c4 hnn
      obtain ⟨n, hn⟩ : ∃ n, n = k := ⟨_, rfl⟩
      subst hn
      go_loopw [56] (fun kv wr => ∃ i : Nat, kv = .int .i64 (i : Int) ∧ i ≤ n ∧ Hid (Below w3.heap.size w3 wr)) (fun kv _ => n - (intOf kv).toNat)
      case atStart => exact ⟨0, rfl, Nat.zero_le _, hide (bl_refl w3)⟩
      case round =>
        obtain ⟨i, rfl, hi, HBi⟩ := hrel
        by_cases hin : i < n
        · have hii : (i : Int) < (n : Int) := by omega
          obtain ⟨b0, o, ⟨xl, xb, xe, xp⟩, rfl, hbl, hx, e0, e1, e2, e3⟩ := (HN3.out.below HBi.out).at_ hin
          simp only at e0 e1 e2 e3
          have hxb : bN l i = xb := bN_at hx
          have hxe : eN l i = xe := eN_at hx
          have hxp : z[i]? = some xp := by rw [HPE.out, List.getElem?_map, hx]; rfl
          have hpi : preN z r i = i := preN_preo HIV.out.preo HFo.out (by rw [← HPL.out]; exact hin)
          obtain ⟨gi, hgi⟩ : ∃ g, g = wr.heap.size := ⟨_, rfl⟩
          obtain ⟨W4, hW4⟩ : ∃ W4, W4 = wr.alloc (.cells #[.string (bstr xl), .int .i64 xb, .int .i64 xe, .int .i64 xp] 33 (0, 0)) := ⟨_, rfl⟩
          have HW4 := hide hW4
          have HGI := hide hgi
          have HBL : Hid (Blk W4 gi [.string (bstr xl), .int .i64 xb, .int .i64 xe, .int .i64 xp] 33) := hide (by rw [hW4]; exact Blk.newG hgi _ _)
          have HB4 : Hid (Below w3.heap.size w3 W4) := hide (by rw [hW4]; exact bl_alloc HBi.out _)
          have hl4 := ((HLab.out.below HB4.out).cells hin)
          rw [hpi] at hl4
          obtain ⟨l0, l1, l2⟩ := hl4
          simp only [Nat.zero_add] at l0 l1 l2
          have HL4 := hide (And.intro l0 (And.intro l1 l2))
          have HXS := hide (And.intro hxb (And.intro hxe (And.intro hxp hpi)))
          have c4 := (HC3.out.below HB4.out).c4
          simp only at c4
          have hne : ((i : Int) != (i : Int)) = false := by simp
          rw [hW4] at l0 c4
          clear hx hW4 hgi hxb hxe hxp hpi l1 l2 hbl
          go_wp2_with fail
          rw [← HW4.out, ← HGI.out]
          clear l0 c4 hne e0 e1 e2 e3 HW4 HGI HBi
          generalize wr = wr1 at *
          go_loopw [71] (fun kv wr => ∃ j : Nat, kv = .int .i64 (j : Int) ∧ j ≤ n ∧ Hid (Below W4.heap.size W4 wr)) (fun kv _ => n - (intOf kv).toNat)
          case atStart => exact ⟨0, rfl, Nat.zero_le _, hide (bl_refl W4)⟩
          case round =>
            obtain ⟨j, rfl, hj, HBj⟩ := hrel
            by_cases hjn : j < n
            · have hji : (j : Int) < (n : Int) := by omega
              have HB34 := hide (HB4.out.trans (HBj.out.mono HB4.out.size))
              obtain ⟨b0', o', ⟨yl, yb, ye, yp⟩, hbe, hbl', hy, f0, f1, f2, f3⟩ := (HN3.out.below HB34.out).at_ hjn
              injection hbe with hbe
              injection hbe with q1 q2
              subst q1 q2
              simp only at f0 f1 f2 f3
              have hyb : bN l j = yb := bN_at hy
              have hye : eN l j = ye := eN_at hy
              have hpj : preN z r j = j := preN_preo HIV.out.preo HFo.out (by rw [← HPL.out]; exact hjn)
              obtain ⟨gk, hgk⟩ : ∃ g, g = wr.heap.size := ⟨_, rfl⟩
              obtain ⟨W5, hW5⟩ : ∃ W5, W5 = wr.alloc (.cells #[.string (bstr yl), .int .i64 yb, .int .i64 ye, .int .i64 yp] 33 (0, 0)) := ⟨_, rfl⟩
              have HW5 := hide hW5
              have HGK := hide hgk
              have HBK : Hid (Blk W5 gk [.string (bstr yl), .int .i64 yb, .int .i64 ye, .int .i64 yp] 33) := hide (by rw [hW5]; exact Blk.newG hgk _ _)
              have HB5 : Hid (Below W4.heap.size W4 W5) := hide (by rw [hW5]; exact bl_alloc HBj.out _)
              have HBI5 := hide (HBL.out.below HB5.out)
              have HYS := hide (And.intro hyb (And.intro hye hpj))
              have n3 := HBI5.out.cell (k := 3) rfl
              rw [hW5] at n3
              clear hy hW5 hgk hyb hye hpj hbl'
              go_wp2_with fail
              rw [← HW5.out, ← HGK.out]
              clear n3 f0 f1 f2 f3 HW5 HGK HBj HB34
              generalize wr = wr2 at *
              go_loopw [13, 14] (fun uv qv wr => ∃ (u : Bool) (q : Int), uv = .bool u ∧ qv = .int .i64 q ∧ -1 ≤ q ∧ q < n ∧ Hid (UpS z j i u q) ∧ Hid (wr = W5)) (fun _ qv _ => (intOf qv + 1).toNat)
              case atStart =>
                have h1 := preo_lt HIV.out.preo (i + 1) i xp (by omega) HXS.out.2.2.1
                exact ⟨false, xp, rfl, rfl, h1.1, by omega, hide (UpS.start HXS.out.2.2.1), hide rfl⟩
              case round =>
                obtain ⟨u, q, rfl, rfl, hq0, hqn, HU, HE⟩ := hrel
                obtain rfl := HE.out
                by_cases hneg : q < 0
                · have hq : ¬ (0 : Int) ≤ q := by omega
                  have HUD := hide (HU.out.done hneg)
                  have HB35 := hide (HB4.out.trans (HB5.out.mono HB4.out.size))
                  have HLC : Hid (∀ wx, Below _ _ wx → _) := hide (fun wx hx => (HLab.out.below (HB35.out.trans (hx.mono HB35.out.size))).cells hjn)
                  have HLD : Hid (∀ wx, Below _ _ wx → _) := hide (fun wx hx => (HLab.out.below (HB35.out.trans (hx.mono HB35.out.size))).cells hin)
                  rw [HYS.out.2.2] at HLC
                  rw [HXS.out.2.2.2] at HLD
                  simp only [Nat.zero_add] at HLC HLD
                  have hdm := dom_iff HFo.out (i := i) (k := j) (by rw [← HPL.out]; exact hin) (by rw [← HPL.out]; exact hjn)
                  have hpr := prec_iff HFo.out (i := i) (k := j) (by rw [← HPL.out]; exact hin) (by rw [← HPL.out]; exact hjn)
                  rw [HYS.out.2.2, HXS.out.2.2.2] at hdm hpr
                  have hpb : (decide ((j : Int) < (i : Int)) && decide ((postN z r j : Int) < (postN z r i : Int))) = true → ye ≤ xb := fun hb => by
                    rw [Bool.and_eq_true, decide_eq_true_eq, decide_eq_true_eq] at hb
                    have h1 := hpr.1 ⟨by omega, by omega⟩
                    have h2 := HIV.out.after h1.1 (by rw [← HPL.out]; exact hin) h1.2
                    rw [HYS.out.2.1, HXS.out.1] at h2
                    exact h2
                  have hanc : u = true → yb ≤ xb ∧ xe ≤ ye := fun hu => by
                    have h2 := HIV.out.nest (HUD.out.1 hu)
                    rw [HYS.out.1, HYS.out.2.1, HXS.out.1, HXS.out.2.1] at h2
                    exact h2
                  have hud : u = (decide ((j : Int) < (i : Int)) && decide ((postN z r i : Int) < (postN z r j : Int))) := by
                    rw [Bool.eq_iff_iff, HUD.out, ← hdm, Bool.and_eq_true, decide_eq_true_eq, decide_eq_true_eq]
                    constructor <;> rintro ⟨h1, h2⟩ <;> exact ⟨by omega, by omega⟩
                  have HDOM := hide (fun (wx : World) => dom_any (j : Int) (postN z r j : Int) (r j : Int) (i : Int) (postN z r i : Int) (r i : Int) u hud wx)
                  obtain ⟨pb, hpbe⟩ : ∃ pb, pb = (decide ((j : Int) < (i : Int)) && decide ((postN z r j : Int) < (postN z r i : Int))) := ⟨_, rfl⟩
                  have HPRC := hide (fun (wx : World) => prec_any (j : Int) (postN z r j : Int) (r j : Int) (i : Int) (postN z r i : Int) (r i : Int) pb hpbe wx)
                  rw [← hpbe] at hpb
                  have HPB := hide hpb
                  have HANC := hide hanc
                  clear hdm hpr hud hpbe hpb hanc HUD HU
                  generalize (postN z r j : Int) = pj at *
                  generalize (postN z r i : Int) = pi at *
                  generalize (r j : Int) = rj at *
                  generalize (r i : Int) = ri at *
                  cases u
                  · skip
                    go_wp2_with fail
                    refine wp_region_K 11 (by kernel_rfl) (by kernel_rfl) (fun Q HQ => ?_)
                    simp only [List.take_succ_cons, List.take_zero, List.map_cons, List.map_nil]
                    repeat
                      first
                      | (refine wpS_skip (b := true) rfl (guard_mk rfl rfl) ?_)
                      | (refine wpS_skip (b := false) rfl (guard_mk rfl rfl) ?_)
                      | (refine wpS_skipU rfl (guardU_mk rfl rfl) ?_)
                      | (first | apply wpS_c rfl | apply wpS_gc rfl (guard_mk rfl rfl)
                         focus
                           intro ev wx hC hx
                           (try simp [Op.operands, Call.operands, opndS, Slot.holds] at hx)
                           obtain ⟨c0, c1, c2⟩ := HLC.out _ hC.below
                           obtain ⟨d0, d1, d2⟩ := HLD.out _ hC.below
                           go_simp
                           try (first | exact rfl | exact ⟨Below.refl _ _, rfl⟩ | ((go_at_call 11; exact HDOM.out _)))
                           done)
                      dsimp only [setS, List.set]
                    refine wpS_nil (HQ _ fun w6 hC6 => ?_)
                    simp only [closeS, List.drop_succ_cons, List.drop_zero, List.drop_nil]
                    have HB6 : Hid (Below wr.heap.size wr w6) := hide hC6.below
                    clear HQ hC6
                    have g1 := (HBI5.out.below HB6.out).cell (k := 1) rfl
                    have g2 := (HBI5.out.below HB6.out).cell (k := 2) rfl
                    have k1 := (HBK.out.below HB6.out).cell (k := 1) rfl
                    have k2 := (HBK.out.below HB6.out).cell (k := 2) rfl
                    cases pb
                    · skip
                      go_wp2_with fail
                      clear g1 g2 k1 k2
                      refine wp_region_K 16 (by kernel_rfl) (by kernel_rfl) (fun Q HQ => ?_)
                      simp only [List.take_succ_cons, List.take_zero, List.map_cons, List.map_nil]
                      repeat
                        first
                        | (refine wpS_skip (b := true) rfl (guard_mk rfl rfl) ?_)
                        | (refine wpS_skip (b := false) rfl (guard_mk rfl rfl) ?_)
                        | (refine wpS_skipU rfl (guardU_mk rfl rfl) ?_)
                        | (first | apply wpS_c rfl | apply wpS_gc rfl (guard_mk rfl rfl)
                           focus
                             intro ev wx hC hx
                             (try simp [Op.operands, Call.operands, opndS, Slot.holds] at hx)
                             have hb6 : Below wr.heap.size wr wx := HB6.out.trans ((show Below w6.heap.size w6 wx from hC.below).mono HB6.out.size)
                             obtain ⟨c0, c1, c2⟩ := HLC.out _ hb6
                             obtain ⟨d0, d1, d2⟩ := HLD.out _ hb6
                             have g1 := (HBI5.out.below hb6).cell (k := 1) rfl
                             have k2 := (HBK.out.below hb6).cell (k := 2) rfl
                             clear hb6
                             go_simp
                             try (first | exact rfl | exact ⟨Below.refl _ _, rfl⟩ | ((go_at_call 12; exact HPRC.out _)))
                             done)
                        dsimp only [setS, List.set]
                      refine wpS_nil (HQ _ fun w7 hC7 => ?_)
                      simp only [closeS, List.drop_succ_cons, List.drop_zero, List.drop_nil]
                      have HB7 := hide (HB5.out.trans ((HB6.out.trans ((show Below w6.heap.size w6 w7 from hC7.below).mono HB6.out.size)).mono HB5.out.size))
                      clear HQ hC7
                      go_wp2
                      go_roundw
                      case rel => exact ⟨j + 1, by go_num, by omega, HB7⟩
                      case measure => simp [intOf]; omega
                    · have hpp : ¬ xb < ye := by have := HPB.out rfl; omega
                      go_wp2_with fail
                      clear g1 g2 k1 k2
                      refine wp_region_K 16 (by kernel_rfl) (by kernel_rfl) (fun Q HQ => ?_)
                      simp only [List.take_succ_cons, List.take_zero, List.map_cons, List.map_nil]
                      repeat
                        first
                        | (refine wpS_skip (b := true) rfl (guard_mk rfl rfl) ?_)
                        | (refine wpS_skip (b := false) rfl (guard_mk rfl rfl) ?_)
                        | (refine wpS_skipU rfl (guardU_mk rfl rfl) ?_)
                        | (first | apply wpS_c rfl | apply wpS_gc rfl (guard_mk rfl rfl)
                           focus
                             intro ev wx hC hx
                             (try simp [Op.operands, Call.operands, opndS, Slot.holds] at hx)
                             have hb6 : Below wr.heap.size wr wx := HB6.out.trans ((show Below w6.heap.size w6 wx from hC.below).mono HB6.out.size)
                             obtain ⟨c0, c1, c2⟩ := HLC.out _ hb6
                             obtain ⟨d0, d1, d2⟩ := HLD.out _ hb6
                             have g1 := (HBI5.out.below hb6).cell (k := 1) rfl
                             have k2 := (HBK.out.below hb6).cell (k := 2) rfl
                             clear hb6
                             go_simp
                             try (first | exact rfl | exact ⟨Below.refl _ _, rfl⟩ | ((go_at_call 12; exact HPRC.out _)))
                             done)
                        dsimp only [setS, List.set]
                      refine wpS_nil (HQ _ fun w7 hC7 => ?_)
                      simp only [closeS, List.drop_succ_cons, List.drop_zero, List.drop_nil]
                      have HB7 := hide (HB5.out.trans ((HB6.out.trans ((show Below w6.heap.size w6 w7 from hC7.below).mono HB6.out.size)).mono HB5.out.size))
                      clear HQ hC7
                      go_wp2
                      go_roundw
                      case rel => exact ⟨j + 1, by go_num, by omega, HB7⟩
                      case measure => simp [intOf]; omega
                  · have n1 : ¬ xb < yb := by have := (HANC.out rfl).1; omega
                    have n2 : ¬ ye < xe := by have := (HANC.out rfl).2; omega
                    go_wp2_with fail
                    refine wp_region_K 11 (by kernel_rfl) (by kernel_rfl) (fun Q HQ => ?_)
                    simp only [List.take_succ_cons, List.take_zero, List.map_cons, List.map_nil]
                    repeat
                      first
                      | (refine wpS_skip (b := true) rfl (guard_mk rfl rfl) ?_)
                      | (refine wpS_skip (b := false) rfl (guard_mk rfl rfl) ?_)
                      | (refine wpS_skipU rfl (guardU_mk rfl rfl) ?_)
                      | (first | apply wpS_c rfl | apply wpS_gc rfl (guard_mk rfl rfl)
                         focus
                           intro ev wx hC hx
                           (try simp [Op.operands, Call.operands, opndS, Slot.holds] at hx)
                           obtain ⟨c0, c1, c2⟩ := HLC.out _ hC.below
                           obtain ⟨d0, d1, d2⟩ := HLD.out _ hC.below
                           go_simp
                           try (first | exact rfl | exact ⟨Below.refl _ _, rfl⟩ | ((go_at_call 11; exact HDOM.out _)))
                           done)
                      dsimp only [setS, List.set]
                    refine wpS_nil (HQ _ fun w6 hC6 => ?_)
                    simp only [closeS, List.drop_succ_cons, List.drop_zero, List.drop_nil]
                    have HB6 : Hid (Below wr.heap.size wr w6) := hide hC6.below
                    clear HQ hC6
                    have g1 := (HBI5.out.below HB6.out).cell (k := 1) rfl
                    have g2 := (HBI5.out.below HB6.out).cell (k := 2) rfl
                    have k1 := (HBK.out.below HB6.out).cell (k := 1) rfl
                    have k2 := (HBK.out.below HB6.out).cell (k := 2) rfl
                    cases pb
                    · skip
                      go_wp2_with fail
                      clear g1 g2 k1 k2
                      refine wp_region_K 16 (by kernel_rfl) (by kernel_rfl) (fun Q HQ => ?_)
                      simp only [List.take_succ_cons, List.take_zero, List.map_cons, List.map_nil]
                      repeat
                        first
                        | (refine wpS_skip (b := true) rfl (guard_mk rfl rfl) ?_)
                        | (refine wpS_skip (b := false) rfl (guard_mk rfl rfl) ?_)
                        | (refine wpS_skipU rfl (guardU_mk rfl rfl) ?_)
                        | (first | apply wpS_c rfl | apply wpS_gc rfl (guard_mk rfl rfl)
                           focus
                             intro ev wx hC hx
                             (try simp [Op.operands, Call.operands, opndS, Slot.holds] at hx)
                             have hb6 : Below wr.heap.size wr wx := HB6.out.trans ((show Below w6.heap.size w6 wx from hC.below).mono HB6.out.size)
                             obtain ⟨c0, c1, c2⟩ := HLC.out _ hb6
                             obtain ⟨d0, d1, d2⟩ := HLD.out _ hb6
                             have g1 := (HBI5.out.below hb6).cell (k := 1) rfl
                             have k2 := (HBK.out.below hb6).cell (k := 2) rfl
                             clear hb6
                             go_simp
                             try (first | exact rfl | exact ⟨Below.refl _ _, rfl⟩ | ((go_at_call 12; exact HPRC.out _)))
                             done)
                        dsimp only [setS, List.set]
                      refine wpS_nil (HQ _ fun w7 hC7 => ?_)
                      simp only [closeS, List.drop_succ_cons, List.drop_zero, List.drop_nil]
                      have HB7 := hide (HB5.out.trans ((HB6.out.trans ((show Below w6.heap.size w6 w7 from hC7.below).mono HB6.out.size)).mono HB5.out.size))
                      clear HQ hC7
                      go_wp2
                      go_roundw
                      case rel => exact ⟨j + 1, by go_num, by omega, HB7⟩
                      case measure => simp [intOf]; omega
                    · have hpp : ¬ xb < ye := by have := HPB.out rfl; omega
                      go_wp2_with fail
                      clear g1 g2 k1 k2
                      refine wp_region_K 16 (by kernel_rfl) (by kernel_rfl) (fun Q HQ => ?_)
                      simp only [List.take_succ_cons, List.take_zero, List.map_cons, List.map_nil]
                      repeat
                        first
                        | (refine wpS_skip (b := true) rfl (guard_mk rfl rfl) ?_)
                        | (refine wpS_skip (b := false) rfl (guard_mk rfl rfl) ?_)
                        | (refine wpS_skipU rfl (guardU_mk rfl rfl) ?_)
                        | (first | apply wpS_c rfl | apply wpS_gc rfl (guard_mk rfl rfl)
                           focus
                             intro ev wx hC hx
                             (try simp [Op.operands, Call.operands, opndS, Slot.holds] at hx)
                             have hb6 : Below wr.heap.size wr wx := HB6.out.trans ((show Below w6.heap.size w6 wx from hC.below).mono HB6.out.size)
                             obtain ⟨c0, c1, c2⟩ := HLC.out _ hb6
                             obtain ⟨d0, d1, d2⟩ := HLD.out _ hb6
                             have g1 := (HBI5.out.below hb6).cell (k := 1) rfl
                             have k2 := (HBK.out.below hb6).cell (k := 2) rfl
                             clear hb6
                             go_simp
                             try (first | exact rfl | exact ⟨Below.refl _ _, rfl⟩ | ((go_at_call 12; exact HPRC.out _)))
                             done)
                        dsimp only [setS, List.set]
                      refine wpS_nil (HQ _ fun w7 hC7 => ?_)
                      simp only [closeS, List.drop_succ_cons, List.drop_zero, List.drop_nil]
                      have HB7 := hide (HB5.out.trans ((HB6.out.trans ((show Below w6.heap.size w6 w7 from hC7.below).mono HB6.out.size)).mono HB5.out.size))
                      clear HQ hC7
                      go_wp2
                      go_roundw
                      case rel => exact ⟨j + 1, by go_num, by omega, HB7⟩
                      case measure => simp [intOf]; omega
                · obtain ⟨m, rfl⟩ := Int.eq_ofNat_of_zero_le (show 0 ≤ q by omega)
                  have hq : (0 : Int) ≤ (m : Int) := by omega
                  have hmn : (m : Int) < (n : Int) := hqn
                  have HB35 := hide (HB4.out.trans (HB5.out.mono HB4.out.size))
                  obtain ⟨b0'', o'', ⟨vl, vb, ve, vp⟩, hbe, _, hv, f0, f1, f2, f3⟩ := (HN3.out.below HB35.out).at_ (show m < n by omega)
                  injection hbe with hbe
                  injection hbe with q1 q2
                  subst q1 q2
                  simp only at f0 f1 f2 f3
                  have hvp : z[m]? = some vp := by rw [HPE.out, List.getElem?_map, hv]; rfl
                  have h1 := preo_lt HIV.out.preo (m + 1) m vp (by omega) hvp
                  have HU2 := hide (HU.out.step hvp)
                  have c4 := (HC3.out.below HB35.out).c4
                  simp only at c4
                  clear hv hvp
                  by_cases hmj : m = j
                  · have he : ((m : Int) == (j : Int)) = true := by rw [beq_iff_eq]; omega
                    rw [decide_eq_true hmj, Bool.or_true] at HU2
                    clear hmj
                    cases u
                    · go_wp2
                      go_roundw
                      case rel => exact ⟨true, vp, rfl, rfl, by omega, by omega, HU2, by first | exact hide rfl | exact hide trivial⟩
                      case measure => simp [intOf]; omega
                    · go_wp2
                      go_roundw
                      case rel => exact ⟨true, vp, rfl, rfl, by omega, by omega, HU2, by first | exact hide rfl | exact hide trivial⟩
                      case measure => simp [intOf]; omega
                  · have he : ((m : Int) == (j : Int)) = false := by rw [beq_eq_false_iff_ne]; omega
                    rw [decide_eq_false hmj, Bool.or_false] at HU2
                    clear hmj
                    cases u
                    · go_wp2
                      go_roundw
                      case rel => exact ⟨false, vp, rfl, rfl, by omega, by omega, HU2, by first | exact hide rfl | exact hide trivial⟩
                      case measure => simp [intOf]; omega
                    · go_wp2
                      go_roundw
                      case rel => exact ⟨true, vp, rfl, rfl, by omega, by omega, HU2, by first | exact hide rfl | exact hide trivial⟩
                      case measure => simp [intOf]; omega
            · obtain rfl : j = n := by omega
              have hji : ¬ (j : Int) < (j : Int) := by omega
              have HB34 := hide (HB4.out.trans (HBj.out.mono HB4.out.size))
              go_wp2
              go_roundw
              case rel => exact ⟨i + 1, by go_num, by omega, HB34⟩
              case measure => simp [intOf]; omega
        · obtain rfl : i = n := by omega
          have hii : ¬ (i : Int) < (i : Int) := by omega
          have HB5 := hide (HBi.out)
          have HCx := hide (HC3.out.below HBi.out)
          have HFM : Hid (∀ wx, Below w3.heap.size w3 wx → Calls Tryz.prog 13 #[.slice aN i cN, .int .i64 (cT.n : Int)] wx fun e w' => ∃ S, e = .returned (.tuple #[.string S, .int .i64 0]) ∧ Below wx.heap.size wx w') := hide (fun wx hx => bformat_any aN i cN l X cT.n wx (HN3.out.below hx) h40 h80 HNO.out HXO.out)
          obtain ⟨s0, s1, s2, s3, s4, s5, s6⟩ := HCx.out
          simp only at s0 s1 s2 s3 s4 s5 s6
          go_wp2_with fail
          refine (HFM.out _ HB5.out).mono ?_
          rintro e w6 ⟨S, rfl, hb6⟩
          have HB6 := hide (HB5.out.trans (hb6.mono HB5.out.size))
          have HAW : Hid (∀ wx, Below w3.heap.size w3 wx → Calls Tryz.prog 9 #[] wx fun e w' => e = .returned (.bool true) ∧ Below wx.heap.size wx w') := hide (fun wx hw => awake_any wx (HM3.out.below hw))
          clear hb6 s0 s1 s2 s3 s4 s5 s6
          go_wp2_with fail
          refine (HAW.out _ HB6.out).mono ?_
          rintro e w7 ⟨rfl, hb7⟩
          have HD7 := hide (HD3.out.trans ((HB6.out.trans (hb7.mono HB6.out.size)).mono HD3.out.size))
          clear hb7
          go_wp2
          go_ret
          exact ⟨rfl, HD7.out⟩
end Go.Proofs.YtbpkclopcoaikaaGreatDoor
