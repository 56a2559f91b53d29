/- The walk of TopNodes. -/
import Derived.Test.YtbpkclopcoaikaaGreatDoorWAm
import Derived.Test.YtbpkclopcoaikaaGreatDoorVzWm
namespace Go.Proofs.YtbpkclopcoaikaaGreatDoor
open Go.RowKit
set_option linter.unusedVariables false
set_option linter.unusedSimpArgs false
/-- The parents are read up to node k. -/
structure PaS (l : List Nd) (z : List Int) (k : Nat) : Prop where
  len : z.length = l.length
  at_ : ∀ i, i < k → z[i]? = (l.map Nd.p)[i]?
theorem PaS.next {l : List Nd} {z : List Int} {k : Nat} {x : Nd} (h : PaS l z k) (hx : l[k]? = some x) : PaS l (z.set k x.p) (k + 1) := by
  have hk := (List.getElem?_eq_some_iff.1 hx).1
  refine ⟨by rw [List.length_set, h.len], fun i hi => ?_⟩
  rw [List.getElem?_set]
  by_cases e : k = i
  · subst e
    rw [if_pos rfl, if_pos (by rw [h.len]; exact hk), List.getElem?_map, hx]
    rfl
  · rw [if_neg e]
    exact h.at_ i (by omega)
theorem PaS.all {l : List Nd} {z : List Int} (h : PaS l z l.length) : z = l.map Nd.p := by
  apply List.ext_getElem?
  intro i
  rcases Nat.lt_or_ge i l.length with hi | hi
  · exact h.at_ i hi
  · rw [List.getElem?_eq_none (by rw [h.len]; exact hi), List.getElem?_eq_none (by rw [List.length_map]; exact hi)]
theorem mm_self (a : Nat) : MinMax a a a a := .inl ⟨Nat.le_refl _, rfl, rfl⟩
theorem mm_any (a b : Nat) : MinMax a b (min a b) (max a b) := by
  unfold MinMax
  omega
set_option maxHeartbeats 16000000 in
set_option maxRecDepth 100000 in
theorem topnodes_any (c : Cv) (d : Cd) (a b : Int) (w : World) (h : IsCo w c d) (hf : CFit c) (hm : MaxL w) : Calls Tryz.prog 3 #[c.v, .int .i64 a, .int .i64 b] w fun e w' => e = .returned (.bool true) ∧ Below w.heap.size w w' := by
  obtain ⟨i2, hi2, hz0, hz1, hz2⟩ := info_parts info_int
  have HF := hide hf
  obtain ⟨W0, hW0⟩ : ∃ W0, W0 = w.alloc c.o := ⟨_, rfl⟩
  have HB := hide (bl_alloc (bl_refl w) c.o)
  have HC := hide (CCells.new w c)
  rw [← hW0] at HB HC
  have HI0 := hide (h.below HB.out)
  have HM0 := hide (hm.below HB.out)
  clear h hf hm
  go_enter Tryz.func3, Tryz.ntmps3
  go_wp2_with fail
  rw [← hW0]
  clear hW0
  refine (tiny_any 60 c d _ HI0.out HF.out).mono ?_
  rintro e w1 ⟨t, rfl, hb1, ho1⟩
  have HE1 := hide hb1
  have HD1 := hide (HB.out.trans (hb1.mono HB.out.size))
  have HO1 := hide ho1
  clear hb1 ho1
  cases t
  · go_wp2
    go_ret
    exact ⟨rfl, HD1.out⟩
  have HP := hide (HO1.out rfl)
  by_cases ha0 : a < 0
  · go_wp2
    go_ret
    exact ⟨rfl, HD1.out⟩
  by_cases han : (c.T.n : Int) ≤ a
  · go_wp2
    go_ret
    exact ⟨rfl, HD1.out⟩
  by_cases hb0 : b < 0
  · go_wp2
    go_ret
    exact ⟨rfl, HD1.out⟩
  by_cases hbn : (c.T.n : Int) ≤ b
  · go_wp2
    go_ret
    exact ⟨rfl, HD1.out⟩
  obtain ⟨a, rfl⟩ := Int.eq_ofNat_of_zero_le (show 0 ≤ a by omega)
  obtain ⟨b, rfl⟩ := Int.eq_ofNat_of_zero_le (show 0 ≤ b by omega)
  have HC1 := hide (HC.out.below HE1.out)
  have HN1 := hide (HI0.out.below HE1.out).N
  have HM1 := hide (HM0.out.below HE1.out)
  have HAB := hide (And.intro (show a < c.T.n by omega) (show b < c.T.n by omega))
  obtain ⟨p, hp⟩ : ∃ p, p = d.N.map Nd.p := ⟨_, rfl⟩
  have HPE := hide hp
  have hpl : c.N.n = p.length := by rw [hp, List.length_map]; exact HN1.out.1
  have HPL := hide hpl
  have HT := hide (top_nodes (X := d.X) HP.out.1.N (mm_any a b))
  have HFo := hide (show Forest p (dep p p.length) by rw [hp]; exact preo_forest (nodes_preo HP.out.1.N))
  have HR : Hid (∀ i, i < c.N.n → dep p p.length i ≤ 4096) := hide (fun i _ => Nat.le_trans (dep_le p _ i) (by have := HP.out.2.2; omega))
  have h40 := HP.out.2.2
  have h60 := HP.out.2.1
  obtain ⟨cA, cT, cX, cR, ⟨aN, nN, cN⟩, cH, cL⟩ := c
  simp only at *
  generalize hl : d.N = l at *
  have HL := hide hl
  clear hp hpl hl
  obtain ⟨s0, s1, s2, s3, s4, s5, s6⟩ := HC1.out
  simp only at s0 s1 s2 s3 s4 s5 s6
  go_wp2_with (at_make; go_loud (refine wpList_make_full _ rfl (.tmp 43) (.tmp 43) 27 rfl w1.heap.size 3 i2 _ 1 Tryz.underlying27 hi2 hz0 hz1 .i64 .i64 _ _ nN rfl rfl rfl rfl (by rw [hz2]; omega) (by simp only [maxLen]; omega) (Nat.le_refl _) ?_); intro w2 hown hg1; rw [made_one _ rfl] at hown; have hb2 : Below w1.heap.size w1 w2 := bl_grown (bl_refl w1) hg1 (fun k h => by cases h); have HO := hide hown; have HBm := hide hb2; have t4 := (HC1.out.below hb2).c4; simp only at t4; clear hown hg1 hb2)
  have HO := hide (show w2.ownsRow w1.heap.size 3 1 (.slice (some ⟨w1.heap.size, 0, none⟩) nN nN) nN ((List.replicate nN (0 : Int)).map iv) by rw [List.map_replicate]; exact HO.out)
  obtain ⟨r0, hr0⟩ : ∃ g, g = w1.heap.size := ⟨_, rfl⟩
  have HZ0 : Hid (PaS l (List.replicate nN (0 : Int)) 0) := hide ⟨by simp [HN1.out.1], fun i h => absurd h (by omega)⟩
  generalize List.replicate nN (0 : Int) = z0 at *
  rw [← hr0] at HO ⊢
  have HR0E := hide hr0
  clear hr0 s0 s1 s2 s3 s4 s5 s6 t4
  go_loopw [48] (fun kv wr => ∃ (k : Nat) (z : List Int), kv = .int .i64 (k : Int) ∧ k ≤ nN ∧ Hid (PaS l z k) ∧ Hid (wr.ownsRow r0 3 1 (.slice (some ⟨r0, 0, none⟩) nN nN) nN (z.map iv)) ∧ Hid (Below w1.heap.size w1 wr)) (fun kv _ => nN - (intOf kv).toNat)
  case atStart => exact ⟨0, z0, rfl, Nat.zero_le _, HZ0, HO, HBm⟩
  case round =>
    obtain ⟨k, z, rfl, hk, HZ, HWk, HBk⟩ := hrel
    by_cases hkn : k < nN
    · have hki : (k : Int) < (nN : Int) := by omega
      obtain ⟨b0, o, ⟨xl, xb, xe, xp⟩, rfl, hbl, hx, e0, e1, e2, e3⟩ := (HN1.out.below HBk.out).at_ hkn
      simp only at e0 e1 e2 e3
      have hb2 := bl_alloc HBk.out (.cells #[.string (bstr xl), .int .i64 xb, .int .i64 xe, .int .i64 xp] 33 (0, 0))
      have hrow := own_below HWk.out (bl_alloc (bl_refl wr) (.cells #[.string (bstr xl), .int .i64 xb, .int .i64 xe, .int .i64 xp] 33 (0, 0)))
      obtain ⟨dv, hdv⟩ : ∃ x, z[k]? = some x := ⟨_, List.getElem?_eq_getElem (by rw [HZ.out.len, ← HN1.out.1]; exact hkn)⟩
      have m1 := own_at_i hrow hdv hkn
      have z1 := own_frz hrow hkn
      have HW7 := hide (own_set_i hrow hkn xp)
      have HX7 := hide (hb2.setCell (p := ⟨r0, k, none⟩) (by rw [HR0E.out]; exact Nat.le_refl _) (.int .i64 xp))
      have HZ7 := hide (HZ.out.next hx)
      clear hb2 hrow hx hdv
      go_wp2
      go_roundw
      case rel => exact ⟨k + 1, z.set k xp, by go_num, by omega, HZ7, HW7, HX7⟩
      case measure => simp [intOf]; omega
    · obtain rfl : k = nN := by omega
      have hki : ¬ (k : Int) < (k : Int) := by omega
      have hzp : z = p := by rw [HPE.out]; exact PaS.all (by rw [← HN1.out.1]; exact HZ.out)
      subst hzp
      obtain ⟨ap, cp, hv, hcp, hcm, hIp⟩ := own_isI HWk.out HPL.out
      injection hv with hv1 _ hv2
      subst hv1 hv2
      have HIp := hide hIp
      clear hIp
      have hF := HFo.out
      go_wp2_with fail
      refine (assign_any _ _ _ z (dep z z.length) wr HIp.out hcp hcm (by omega) HFo.out HR.out).mono ?_
      rintro e w3 ⟨lb, rfl, hb3, hlb, hlc⟩
      have HX3 := hide (HBk.out.trans (hb3.mono HBk.out.size))
      have HLab : Hid (IsLab w3 (some ⟨lb, 0, none⟩) k z (dep z z.length)) := hide ⟨HPL.out, rd_row hlc⟩
      clear hb3 hlb hlc hF
      have HN3 := hide (HN1.out.below HX3.out)
      have HM3 := hide (HM1.out.below HX3.out)
      have HC3 := hide (HC1.out.below HX3.out)
      have HD3 := hide (HD1.out.trans (HX3.out.mono HD1.out.size))
      clear HWk HIp HBk HZ
      generalize wr = wr0 at *
      have HRC : Hid (∀ (i j : Nat) wx, (i = a ∨ i = b) → (j = a ∨ j = b) → Below w3.heap.size w3 wx → Calls Tryz.prog 8 #[(Cv.mk cA cT cX cR ⟨aN, k, cN⟩ cH cL).v, .int .i64 (i : Int), .int .i64 (j : Int)] wx fun e w' => e = .returned (.int .i64 (lastI (holdL l ((min i j : Nat) : Int) (((max i j : Nat) : Int) + 1) l.length))) ∧ Below wx.heap.size wx w') := hide (fun i j wx hi hj hw => by
        have h1 := HAB.out
        have := rcommon_any (Cv.mk cA cT cX cR ⟨aN, k, cN⟩ cH cL) l i j (min i j) (max i j) wx (HN3.out.below hw) (by simp only; omega) (by simp only; omega) (by simp only; omega) (by simp only; omega) (mm_any i j) (by omega) (by simp only; omega)
        rw [← HN1.out.1]
        exact this)
      go_wp2_with fail
      refine wp_region_K 13 (by kernel_rfl) (by kernel_rfl) (fun Q HQ => ?_)
      simp only [List.take_succ_cons, List.take_zero, List.map_cons, List.map_nil]
      repeat
        first
        | (refine wpS_skip (b := true) rfl (guard_mk rfl rfl) ?_)
        | (refine wpS_skip (b := false) rfl (guard_mk rfl rfl) ?_)
        | (refine wpS_skipU rfl (guardU_mk rfl rfl) ?_)
        | (first | apply wpS_c rfl | apply wpS_gc rfl (guard_mk rfl rfl)
           focus
             intro ev wx hC hx
             (try simp [Op.operands, Call.operands, opndS, Slot.holds] at hx)
             have cc := HC3.out.below hC.below
             have c0 := cc.c0
             have c1 := cc.c1
             have c2 := cc.c2
             have c3 := cc.c3
             have c4 := cc.c4
             have c5 := cc.c5
             have c6 := cc.c6
             simp only at c0 c1 c2 c3 c4 c5 c6
             clear cc
             go_simp
             try (first | exact rfl | exact ⟨Below.refl _ _, rfl⟩ | ((go_at_call 8; exact HRC.out _ _ _ (by simp) (by simp) hC.below)))
             done)
        dsimp only [setS, List.set]
      refine wpS_nil (HQ _ fun w6 hC6 => ?_)
      simp only [closeS, List.drop_succ_cons, List.drop_zero, List.drop_nil]
      simp only [Nat.min_self, Nat.max_self]
      have hb6 := hC6.below
      have HX6 := hide hb6
      have HD6 := hide (HD3.out.trans (hb6.mono HD3.out.size))
      have HM6 := hide (HM3.out.below hb6)
      have HLab6 := hide (HLab.out.below hb6)
      have HT6 := hide HT.out
      clear HQ hC6 hb6 HT HRC HLab HM3
      generalize lastI (holdL l (a : Int) ((a : Int) + 1) l.length) = xa at *
      generalize lastI (holdL l (b : Int) ((b : Int) + 1) l.length) = xb at *
      generalize lastI (holdL l ((min a b : Nat) : Int) (((max a b : Nat) : Int) + 1) l.length) = xz at *
      have hkl : k = l.length := HN1.out.1
      obtain ⟨t1, t2, t3, t4, t5, t6⟩ := HT6.out
      have ta : ¬ (k : Int) ≤ xa := by omega
      have tb : ¬ (k : Int) ≤ xb := by omega
      have HT5 := hide t5
      have HLC := hide t6
      have HNN := hide (And.intro t1 (And.intro t3 hkl))
      clear t1 t2 t3 t4 t5 t6 hkl HT6
      have HAW : Hid (∀ wx, Below w6.heap.size w6 wx → Calls Tryz.prog 9 #[] wx fun e w' => e = .returned (.bool true) ∧ Below wx.heap.size wx w') := hide (fun wx hw => awake_any wx (HM6.out.below hw))
      by_cases hxa : xa < 0
      · have hz : (xz == -1) = true := by rw [beq_iff_eq]; exact HT5.out (.inl hxa)
        go_wp2_with fail
        refine (HAW.out _ (bl_refl _)).mono ?_
        rintro e w7 ⟨rfl, hb7⟩
        have HD7 := hide (HD6.out.trans (hb7.mono HD6.out.size))
        clear hb7
        go_wp2
        go_ret
        exact ⟨rfl, HD7.out⟩
      by_cases hxb : xb < 0
      · have hz : (xz == -1) = true := by rw [beq_iff_eq]; exact HT5.out (.inr hxb)
        go_wp2_with fail
        refine (HAW.out _ (bl_refl _)).mono ?_
        rintro e w7 ⟨rfl, hb7⟩
        have HD7 := hide (HD6.out.trans (hb7.mono HD6.out.size))
        clear hb7
        go_wp2
        go_ret
        exact ⟨rfl, HD7.out⟩
      obtain ⟨x, rfl⟩ := Int.eq_ofNat_of_zero_le (show 0 ≤ xa by omega)
      obtain ⟨y, rfl⟩ := Int.eq_ofNat_of_zero_le (show 0 ≤ xb by omega)
      have HL2 := hide (HLC.out x y rfl rfl)
      have HTC := hide (tcommon_any (some ⟨lb, 0, none⟩) k k z (dep z z.length) x y w6 HLab6.out (Nat.le_refl _) (by simp only [maxLen]; omega) (by omega) HFo.out HR.out (by omega) (by omega))
      go_wp2_with fail
      refine HTC.out.mono ?_
      rintro e w7 ⟨m, rfl, hb7, hm⟩
      have hmz : m = xz := Lca.uniq HFo.out hm (by rw [HPE.out]; exact HL2.out)
      subst hmz
      have HX7 := hide hb7
      have HD7 := hide (HD6.out.trans (hb7.mono HD6.out.size))
      clear hb7 hm HTC HL2
      go_wp2_with fail
      refine (HAW.out _ HX7.out).mono ?_
      rintro e w8 ⟨rfl, hb8⟩
      have HD8 := hide (HD7.out.trans (hb8.mono HD7.out.size))
      clear hb8
      go_wp2
      go_ret
      exact ⟨rfl, HD8.out⟩
end Go.Proofs.YtbpkclopcoaikaaGreatDoor
