/- The walk of TopHeads. -/
import Derived.Test.YtbpkclopcoaikaaGreatDoorVzWm
import Derived.Test.YtbpkclopcoaikaaGreatDoorTgWm
import Derived.Test.YtbpkclopcoaikaaGreatDoorXHm
import Derived.Test.YtbpkclopcoaikaaGreatDoorXfWm
import Derived.Test.YtbpkclopcoaikaaGreatDoorXgWm
namespace Go.Proofs.YtbpkclopcoaikaaGreatDoor
open Go.RowKit
set_option linter.unusedVariables false
set_option linter.unusedSimpArgs false
/-- The way above a token, as a slice. -/
def UpV (p : List Int) (r : Nat → Nat) (i : Nat) (v : Value) (w : World) : Prop := ∃ a m k, v = .slice a m k ∧ m = r i ∧ m ≤ k ∧ k ≤ maxLen ∧ IsI w a m (nats (wayU p r i).tail)
theorem stab_upv (p : List Int) (r : Nat → Nat) (i : Nat) : Stab (.p (UpV p r i)) := fun u w w' hb ⟨a, m, k, h1, h2, h3, h4, h5⟩ => ⟨a, m, k, h1, h2, h3, h4, h5.below hb⟩
set_option maxHeartbeats 32000000 in
set_option maxRecDepth 100000 in
theorem topheads_any (c : Cv) (d : Cd) (a b : Int) (w : World) (h : IsCo w c d) (hf : CFit c) (hm : MaxL w) : Calls Tryz.prog 5 #[c.v, .int .i64 a, .int .i64 b] w fun e w' => e = .returned (.bool true) ∧ Below w.heap.size w w' := by
  obtain ⟨i2, hi2, hz0, hz1, hz2⟩ := info_parts info_int
  have HF := hide hf
  obtain ⟨W0, hW0⟩ : ∃ W0, W0 = w.alloc c.o := ⟨_, rfl⟩
  have HB := hide (bl_alloc (bl_refl w) c.o)
  have HC := hide (CCells.new w c)
  rw [← hW0] at HB HC
  have HI0 := hide (h.below HB.out)
  have HM0 := hide (hm.below HB.out)
  clear h hf hm
  go_enter Tryz.func5, Tryz.ntmps5
  go_wp2_with fail
  rw [← hW0]
  clear hW0
  refine (tiny_any 60 c d _ HI0.out HF.out).mono ?_
  rintro e w1 ⟨t, rfl, hb1, ho1⟩
  have HE1 := hide hb1
  have HD1 := hide (HB.out.trans (hb1.mono HB.out.size))
  have HO1 := hide ho1
  clear hb1 ho1
  cases t
  · go_wp2
    go_ret
    exact ⟨rfl, HD1.out⟩
  have HP := hide (HO1.out rfl)
  by_cases ha0 : a < 0
  · go_wp2
    go_ret
    exact ⟨rfl, HD1.out⟩
  by_cases han : (c.T.n : Int) ≤ a
  · go_wp2
    go_ret
    exact ⟨rfl, HD1.out⟩
  by_cases hb0 : b < 0
  · go_wp2
    go_ret
    exact ⟨rfl, HD1.out⟩
  by_cases hbn : (c.T.n : Int) ≤ b
  · go_wp2
    go_ret
    exact ⟨rfl, HD1.out⟩
  obtain ⟨a, rfl⟩ := Int.eq_ofNat_of_zero_le (show 0 ≤ a by omega)
  obtain ⟨b, rfl⟩ := Int.eq_ofNat_of_zero_le (show 0 ≤ b by omega)
  have HC1 := hide (HC.out.below HE1.out)
  have HI1 := hide (HI0.out.below HE1.out)
  have HM1 := hide (HM0.out.below HE1.out)
  have h60 := HP.out.2.1
  obtain ⟨n, hn⟩ : ∃ n, n = c.T.n := ⟨_, rfl⟩
  have HTH := hide (theads_any c d w1 HI1.out.H HF.out HP.out.1.H (by omega))
  have HHd := hide (headsL_hd HI1.out.H HP.out.1.H)
  have HFo := hide (headsL_forest HI1.out.H HP.out.1.H)
  have HLn := hide (headsL_len HI1.out.H HP.out.1.H)
  have HS1 := hide HI1.out.L
  clear HP HO1 HI0 HI1 HM0 HC HF
  generalize headsL c d = p at *
  generalize dep p p.length = r at *
  obtain ⟨s0, s1, s2, s3, s4, s5, s6⟩ := HC1.out
  go_wp2_with fail
  clear s0 s1 s2 s3 s4 s5 s6
  refine HTH.out.mono ?_
  rintro e w2 ⟨ah, kh, rfl, hk1, hk2, hi2', hb2⟩
  have HE2 := hide hb2
  have HIh := hide hi2'
  have HKh := hide (And.intro hk1 hk2)
  have HR : Hid (∀ i, i < c.T.n → r i ≤ 4096) := hide (fun i hi => by have := forest_deep HFo.out (i := i) (by rw [← HLn.out]; exact hi); have := HLn.out; omega)
  have HAS := hide (assign_any ah c.T.n kh p r w2 hi2' hk1 hk2 (by omega) HFo.out HR.out)
  clear hb2 hi2' HTH
  go_wp2_with fail
  refine HAS.out.mono ?_
  rintro e w3 ⟨lb, rfl, hb3, hlb, hlc⟩
  have HX3 := hide (HE2.out.trans (hb3.mono HE2.out.size))
  have HLab : Hid (IsLab w3 (some ⟨lb, 0, none⟩) c.T.n p r) := hide ⟨HLn.out, rd_row hlc⟩
  have HIh3 := hide (HIh.out.below hb3)
  clear hb3 hlb hlc HAS HIh
  have HC3 := hide (HC1.out.below HX3.out)
  have HM3 := hide (HM1.out.below HX3.out)
  have HH3 := hide (HHd.out.below HX3.out)
  have HS3 := hide (HS1.out.below HX3.out)
  have HD3 := hide (HD1.out.trans (HX3.out.mono HD1.out.size))
  clear HC1 HM1 HHd HS1 HX3 HE2
  have HAB := hide (show a < p.length ∧ b < p.length by have := HLn.out; omega)
  obtain ⟨z, hz⟩ := lca_ex HFo.out HAB.out.1 HAB.out.2
  have HZ := hide hz
  have hab : a < c.T.n ∧ b < c.T.n := ⟨by omega, by omega⟩
  have HAW : Hid (∀ wx, Below w3.heap.size w3 wx → Calls Tryz.prog 9 #[] wx fun e w' => e = .returned (.bool true) ∧ Below wx.heap.size wx w') := hide (fun wx hw => awake_any wx (HM3.out.below hw))
  have HUP : Hid (∀ (i : Nat) wx, i < c.T.n → Below w3.heap.size w3 wx → Calls Tryz.prog 15 #[c.v, .int .i64 (i : Int)] wx fun e w' => ∃ v, e = .returned v ∧ UpV p r i v w' ∧ Below wx.heap.size wx w') := hide (fun i wx hi hx => (rup_any c p r i wx (HH3.out.below hx) (by omega) HFo.out hi).mono (by
    rintro e w' ⟨a1, m1, k1, rfl, h1, h2, h3, h4, h5⟩
    exact ⟨_, rfl, ⟨a1, m1, k1, rfl, h1, h2, h3, h4⟩, h5⟩))
  have HMT : Hid (∀ wx, Below w3.heap.size w3 wx → Calls Tryz.prog 16 #[c.v, .int .i64 (a : Int), .int .i64 (b : Int)] wx fun e w' => e = .returned (.int .i64 z) ∧ Below wx.heap.size wx w') := hide (fun wx hx => (rmeet_any c p r a b wx (HH3.out.below hx) (by omega) HFo.out hab.1 hab.2).mono (by
    rintro e w' ⟨z', rfl, h1, h2⟩
    exact ⟨by rw [Lca.uniq HFo.out h1 HZ.out], h2⟩))
  have HPT : Hid (∀ wx, Below w3.heap.size w3 wx → Calls Tryz.prog 17 #[.slice ah c.T.n kh, .int .i64 (a : Int), .int .i64 (b : Int)] wx (PathP p r a b wx)) := hide (fun wx hx => dpath_any ah c.T.n kh p r a b wx (HIh3.out.below hx) HKh.out.1 HKh.out.2 (by omega) HFo.out hab.1 hab.2)
  have HDE : Hid (∀ wx, Below w3.heap.size w3 wx → Calls Tryz.prog 18 #[.slice ah c.T.n kh, .int .i64 (a : Int)] wx fun e w' => e = .returned (.int .i64 (r a : Int)) ∧ Below wx.heap.size wx w') := hide (fun wx hx => depth_any ah c.T.n kh p r a wx (HIh3.out.below hx) HKh.out.1 HKh.out.2 (by omega) HFo.out hab.1)
  have HCM : Hid (∀ wx, Below w3.heap.size w3 wx → Calls Tryz.prog 10 #[.slice (some ⟨lb, 0, none⟩) c.T.n c.T.n, .int .i64 (a : Int), .int .i64 (b : Int)] wx fun e w' => e = .returned (.int .i64 z) ∧ Below wx.heap.size wx w') := hide (fun wx hx => (tcommon_any (some ⟨lb, 0, none⟩) c.T.n c.T.n p r a b wx (HLab.out.below hx) (Nat.le_refl _) (by simp only [maxLen]; omega) (by omega) HFo.out HR.out hab.1 hab.2).mono (by
    rintro e w' ⟨z', rfl, h1, h2⟩
    exact ⟨by rw [Lca.uniq HFo.out h2 HZ.out], h1⟩))
  have HRO : Hid (∀ wx, Below w3.heap.size w3 wx → Calls Tryz.prog 19 #[c.v, .int .i64 (a : Int), .int .i64 (b : Int)] wx (RouteP p r a b wx)) := hide (fun wx hx => rroute_any c d p r a b wx (HH3.out.below hx) (HS3.out.below hx) (by omega) HFo.out hab.1 hab.2)
  have HLC : Hid (∀ (i : Nat) wx, i < c.T.n → Below w3.heap.size w3 wx → _ ∧ _ ∧ _) := hide (fun i wx hi hx => (HLab.out.below hx).cells hi)
  simp only [Nat.zero_add] at HLC
  have hnn : ((c.T.n : Int) != (c.T.n : Int)) = false := by simp
  clear hz HM3 HIh3 HKh HH3 HS3 HLab HR HE1
  go_wp2_with fail
  clear hnn
  refine wp_region_K 9 (by kernel_rfl) (by kernel_rfl) (fun Q HQ => ?_)
  simp only [List.take_succ_cons, List.take_zero, List.map_cons, List.map_nil]
  repeat
    first
    | (refine wpS_skip (b := true) rfl (guard_mk rfl rfl) ?_)
    | (refine wpS_skip (b := false) rfl (guard_mk rfl rfl) ?_)
    | (refine wpS_skipU rfl (guardU_mk rfl rfl) ?_)
    | (first | apply wpS_c rfl | apply wpS_gc rfl (guard_mk rfl rfl)
       focus
         intro ev wx hC hx
         (try simp [Op.operands, Call.operands, opndS, Slot.holds] at hx)
         obtain ⟨c0, c1, c2, c3, c4, c5, c6⟩ := HC3.out.below hC.below
         go_simp
         try (first | exact rfl | exact ⟨Below.refl _ _, rfl⟩ | ((go_at_call 16; exact HMT.out _ hC.below)))
         done)
    dsimp only [setS, List.set]
  refine wpS_p (R := UpV p r a) rfl (stab_upv p r a) ?_ ?_
  focus
    intro ev wx hC hx
    (try simp [Op.operands, Call.operands, opndS, Slot.holds] at hx)
    go_simp
    refine (HUP.out a wx hab.1 hC.below).mono ?_
    rintro e w' ⟨v, rfl, h1, h2⟩
    exact ⟨_, rfl, h2, h1⟩
  dsimp only [setS, List.set]
  repeat
    first
    | (refine wpS_skip (b := true) rfl (guard_mk rfl rfl) ?_)
    | (refine wpS_skip (b := false) rfl (guard_mk rfl rfl) ?_)
    | (refine wpS_skipU rfl (guardU_mk rfl rfl) ?_)
    | (first | apply wpS_c rfl | apply wpS_gc rfl (guard_mk rfl rfl)
       focus
         intro ev wx hC hx
         (try simp [Op.operands, Call.operands, opndS, Slot.holds] at hx)
         obtain ⟨c0, c1, c2, c3, c4, c5, c6⟩ := HC3.out.below hC.below
         go_simp
         try (first | exact rfl | exact ⟨Below.refl _ _, rfl⟩ | ((go_at_call 16; exact HMT.out _ hC.below)))
         done)
    dsimp only [setS, List.set]
  refine wpS_p rfl (stab_upv p r a) (opS_assign_p (.tmp 65) rfl _ rfl) ?_
  dsimp only [setS, List.set]
  repeat
    first
    | (refine wpS_skip (b := true) rfl (guard_mk rfl rfl) ?_)
    | (refine wpS_skip (b := false) rfl (guard_mk rfl rfl) ?_)
    | (refine wpS_skipU rfl (guardU_mk rfl rfl) ?_)
    | (first | apply wpS_c rfl | apply wpS_gc rfl (guard_mk rfl rfl)
       focus
         intro ev wx hC hx
         (try simp [Op.operands, Call.operands, opndS, Slot.holds] at hx)
         obtain ⟨c0, c1, c2, c3, c4, c5, c6⟩ := HC3.out.below hC.below
         go_simp
         try (first | exact rfl | exact ⟨Below.refl _ _, rfl⟩ | ((go_at_call 16; exact HMT.out _ hC.below)))
         done)
    dsimp only [setS, List.set]
  refine wpS_nil (HQ _ fun w6 hC6 => ?_)
  simp only [closeS, List.drop_succ_cons, List.drop_zero, List.drop_nil]
  rintro _ ⟨aU, mU, kU, rfl, hmU, hkU, hkU2, hiU⟩ _ ⟨a2, m2, k2, rfl, -, -, -, -⟩
  have HB6 := hide (show Below w3.heap.size w3 w6 from hC6.below)
  subst hmU
  have HIU := hide (And.intro hkU (And.intro hkU2 hiU))
  clear HQ hC6 hkU hkU2 hiU
  go_wp2_with fail
  refine (HPT.out _ HB6.out).mono ?_
  rintro e w7 ⟨hb7, hpp⟩
  have hp2 : ∃ s m k f, e = .returned (.tuple #[.slice s m k, .int .i64 f]) ∧ ((z = -1 ∧ f = 11) ∨ (∃ y : Nat, z = (y : Int) ∧ f = 0 ∧ IsI w7 s m (nats (pathL p r a b y)))) := by
    rcases hpp with ⟨h1, h2⟩ | ⟨y, s, m, k, h1, h2, h3, h4, h5⟩
    · exact ⟨_, _, _, _, h2, .inl ⟨Lca.uniq HFo.out HZ.out h1, rfl⟩⟩
    · exact ⟨_, _, _, _, h2, .inr ⟨y, Lca.uniq HFo.out HZ.out h1, rfl, h5⟩⟩
  obtain ⟨aP, mP, kP, f, rfl, hp3⟩ := hp2
  have HPA := hide hp3
  have HB7 := hide (HB6.out.trans (hb7.mono HB6.out.size))
  have HIU := hide (And.intro HIU.out.1 (And.intro HIU.out.2.1 (HIU.out.2.2.below hb7)))
  clear hpp hp3 hb7 HPT HMT HB6
  go_wp2_with fail
  refine wp_region_K 27 (by kernel_rfl) (by kernel_rfl) (fun Q HQ => ?_)
  simp only [List.take_succ_cons, List.take_zero, List.map_cons, List.map_nil]
  repeat
    first
    | (refine wpS_skip (b := true) rfl (guard_mk rfl rfl) ?_)
    | (refine wpS_skip (b := false) rfl (guard_mk rfl rfl) ?_)
    | (refine wpS_skipU rfl (guardU_mk rfl rfl) ?_)
    | (first | apply wpS_c rfl | apply wpS_gc rfl (guard_mk rfl rfl)
       focus
         intro ev wx hC hx
         (try simp [Op.operands, Call.operands, opndS, Slot.holds] at hx)
         have hbh : Hid (Below w3.heap.size w3 wx) := hide (HB7.out.trans ((show Below w7.heap.size w7 wx from hC.below).mono HB7.out.size))
         obtain ⟨d0, d1, d2⟩ := HLC.out a wx hab.1 hbh.out
         go_simp
         try (first | exact rfl | exact ⟨Below.refl _ _, rfl⟩ | ((go_at_call 18; exact HDE.out _ hbh.out)) | ((go_at_call 10; exact HCM.out _ hbh.out)))
         done)
    dsimp only [setS, List.set]
  refine wpS_nil (HQ _ fun w8 hC8 => ?_)
  simp only [closeS, List.drop_succ_cons, List.drop_zero, List.drop_nil]
  have HB78 := hide (show Below w7.heap.size w7 w8 from hC8.below)
  have HB8 := hide (HB7.out.trans (HB78.out.mono HB7.out.size))
  have HIU := hide (And.intro HIU.out.1 (And.intro HIU.out.2.1 (HIU.out.2.2.below HB78.out)))
  clear HQ hC8 HDE HCM
  have hhn : p.length = c.T.n := HLn.out.symm
  have hra : r a < c.T.n := by rw [← hhn]; exact forest_deep HFo.out HAB.out.1
  have hrb : r b < c.T.n := by rw [← hhn]; exact forest_deep HFo.out HAB.out.2
  have HLA := hide (wayU_len HFo.out _ a rfl HAB.out.1)
  have HLB := hide (wayU_len HFo.out _ b rfl HAB.out.2)
  clear hhn
  rcases HPA.out with ⟨rfl, rfl⟩ | ⟨y, rfl, rfl, hIP⟩
  · go_wp2_with fail
    refine (HAW.out _ HB8.out).mono ?_
    rintro e w9 ⟨rfl, hb9⟩
    have HD9 := hide (HD3.out.trans ((HB8.out.trans (hb9.mono HB8.out.size)).mono HD3.out.size))
    clear hb9
    go_wp2
    go_ret
    exact ⟨rfl, HD9.out⟩
  have HIP := hide (hIP.below HB78.out)
  have hyn : y < c.T.n := by rw [HLn.out]; exact lca_lt HFo.out HAB.out.1 HAB.out.2 HZ.out
  have HAT := hide (lca_at HFo.out HAB.out.1 HAB.out.2 HZ.out)
  have hya : r y ≤ r a := HAT.out.2.2.1
  have hyb : r y ≤ r b := HAT.out.2.2.2
  have hy0 : ¬ (y : Int) < 0 := by omega
  have hyn' : ¬ (c.T.n : Int) ≤ (y : Int) := by omega
  have hfz : ((0 : Int) != 0) = false := by decide
  have hRU := (HIU.out.2.2.below (bl_alloc (bl_refl w8) (.cells #[.int .i64 (a : Int)] 3 (0, 0)))).2
  have HRU := hide hRU
  have HNU := hide (show (nats (wayU p r a).tail).length = r a from HIU.out.2.2.1.symm)
  have HOA := hide (own_litT w8 #[.int .i64 (a : Int)] 3 1 rfl (by simp [maxLen]))
  have HWA : Hid ([iv (a : Int)] ++ (nats (wayU p r a).tail).map iv = (nats (wayU p r a)).map iv) := hide (by rw [show nats (wayU p r a) = nats (a :: (wayU p r a).tail) from congrArg nats (wayU_cons HFo.out HAB.out.1)]; rfl)
  have HE8a := hide (bl_alloc (bl_refl w8) (.cells #[.int .i64 (a : Int)] 3 (0, 0)))
  clear hIP HPA HB7 HB78 HIU hRU
  go_wp2_with (at_builtin; go_loud (refine wpList_append_rd _ rfl (.tmp 119) (.tmp 120) 27 rfl w8.heap.size 3 i2 _ 1 8 Tryz.underlying27 hi2 hz0 hz1 hz2 rfl (by decide) (.slice (some ⟨w8.heap.size, 0, none⟩) 1 1) 1 [.int .i64 (a : Int)] rfl HOA.out aU (r a) kU ((nats (wayU p r a).tail).map iv) rfl (by rw [List.length_map, HNU.out, Nat.mul_one]) HRU.out (by intro u hu; obtain ⟨z, _, rfl⟩ := List.mem_map.1 hu; rfl) (by simp only [maxLen]; omega) (by omega) HE8a.out.size ?_; intro v6 w9 hown hg1 hat1; have HE9 := hide (HE8a.out.grown hg1 HE8a.out.size (fun q hq => (ownG_lt HOA.out hq).1)); have HO6 := hide hown; clear hg1 hat1; obtain ⟨aA, cA, hvA, hcA, hiA⟩ := ownG_form hown; subst hvA; clear hown hcA hiA))
  have HO6 := hide (show w9.ownsRow w8.heap.size 3 1 (.slice aA (1 + r a) cA) (1 + r a) ((nats (wayU p r a)).map iv) by rw [← HWA.out]; exact HO6.out)
  have HMA := hide (show 1 + r a = (nats (wayU p r a)).length by rw [nats_len, HLA.out]; omega)
  have HIA : Hid (IsI w9 aA (1 + r a) (nats (wayU p r a))) := hide (by
    obtain ⟨a', c', hv, _, _, hi⟩ := own_isI HO6.out HMA.out
    injection hv with hv1 _ hv2
    subst hv1
    exact hi)
  obtain ⟨mA, hmA⟩ : ∃ m, m = 1 + r a := ⟨_, rfl⟩
  rw [← hmA] at HIA HMA ⊢
  have HE39 := hide (HB8.out.trans (HE9.out.mono HB8.out.size))
  clear HO6 HOA HWA HRU HNU HE8a
  go_wp2_with fail
  go_loopw [16, 18, 123] (fun ov xv kv wr => ∃ t : Nat, kv = .int .i64 (t : Int) ∧ t ≤ r a - r y ∧ Hid (wr.ownsRow w9.heap.size 3 1 ov t ((nats ((wayU p r a).take t)).map iv)) ∧ Hid (Below w9.heap.size w9 wr)) (fun _ _ kv _ => mA - (intOf kv).toNat)
  case atStart => exact ⟨0, rfl, Nat.zero_le _, hide (World.ownsRow_nil _ _ _ _), hide (bl_refl w9)⟩
  case round =>
    obtain ⟨t, rfl, ht, HO, HBk⟩ := hrel
    obtain ⟨av, cv, hv, hcc, hrd⟩ := ownG_form HO.out
    subst hv
    clear hcc hrd
    have htm : t < mA := by omega
    have hti : (t : Int) < (mA : Int) := by omega
    obtain ⟨bA, oA, x, hax, hbA, hx, e0⟩ := (HIA.out.below HBk.out).at_ htm
    subst hax
    obtain ⟨x', hy⟩ : ∃ x', (wayU p r a)[t]? = some x' := ⟨_, List.getElem?_eq_getElem (by rw [HLA.out]; omega)⟩
    rw [nats_at hy] at hx
    injection hx with hx
    subst hx
    have HY := hide hy
    clear hbA hy
    have HTK : Hid ((nats ((wayU p r a).take t)).map iv ++ [.int .i64 (x' : Int)] = (nats ((wayU p r a).take (t + 1))).map iv) := hide (by
      rw [List.take_add_one, HY.out]
      unfold nats
      rw [List.map_append, List.map_append]
      rfl)
    have HRL := hide (rd_lit wr #[.int .i64 (x' : Int)] 3 (0, 0))
    have HBA := hide (bl_alloc HBk.out (.cells #[.int .i64 (x' : Int)] 3 (0, 0)))
    have HOD := hide (ownG_below HO.out (bl_alloc (bl_refl wr) (.cells #[.int .i64 (x' : Int)] 3 (0, 0))))
    have HSA := hide HBA.out.size
    by_cases hxy : x' = y
    · have he : ((x' : Int) == (y : Int)) = true := by rw [beq_iff_eq]; omega
      have hty : t = r a - r y := by
        have h1 := (wayU_at HFo.out t a x' HAB.out.1 HY.out).2.1
        rw [hxy] at h1
        omega
      have HTY := hide hty
      clear hxy hty
      go_wp2_with (at_builtin; go_loud (refine wpList_append_rd _ rfl (.tmp 127) (.tmp 129) 27 rfl w9.heap.size 3 i2 _ 1 8 Tryz.underlying27 hi2 hz0 hz1 hz2 rfl (by decide) (.slice av t cv) t _ rfl HOD.out (some ⟨wr.heap.size, 0, none⟩) 1 1 [.int .i64 (x' : Int)] rfl rfl HRL.out (by intro u hu; simp at hu; subst hu; rfl) (by simp only [maxLen]; omega) (by omega) HSA.out ?_; intro v2 w10 hown hg1 hat1; have HO8 := hide hown; have HB10 := hide (HBA.out.grown hg1 HSA.out (fun q hq => (ownG_lt HOD.out hq).1)); clear hown hg1 hat1; have HE10 := hide (HE39.out.trans (HB10.out.mono HE39.out.size)); have HE10a := hide (bl_alloc HE10.out (.cells #[.int .i64 (b : Int)] 3 (0, 0))); obtain ⟨s0, s1, s2, s3, s4, s5, s6⟩ := HC3.out.below HE10a.out))
      have HO10 : Hid (w10.ownsRow w9.heap.size 3 1 v2 (t + 1) ((nats ((wayU p r a).take (t + 1))).map iv)) := hide (by rw [← HTK.out]; exact HO8.out)
      clear HO8 HTK HRL HBA HOD HSA
      clear s0 s1 s2 s3 s4 s5 s6
      refine (HUP.out b _ hab.2 HE10a.out).mono ?_
      rintro e w11 ⟨_, rfl, ⟨aV, mV, kV, rfl, hmV, hkV, hkV2, hiV⟩, hb11⟩
      subst hmV
      have HRV := hide hiV.2
      have HNV := hide (show (nats (wayU p r b).tail).length = r b from hiV.1.symm)
      have HE11 := hide (HE10a.out.trans (hb11.mono HE10a.out.size))
      have HB11 := hide ((bl_alloc HB10.out (.cells #[.int .i64 (b : Int)] 3 (0, 0))).trans (hb11.mono (bl_alloc HB10.out (.cells #[.int .i64 (b : Int)] 3 (0, 0))).size))
      have HOB := hide (own_below (own_litT w10 #[.int .i64 (b : Int)] 3 1 rfl (by simp [maxLen])) hb11)
      have HOW := hide (ownG_below (ownG_below HO10.out (bl_alloc (bl_refl w10) (.cells #[.int .i64 (b : Int)] 3 (0, 0)))) hb11)
      have HWB : Hid ([iv (b : Int)] ++ (nats (wayU p r b).tail).map iv = (nats (wayU p r b)).map iv) := hide (by rw [show nats (wayU p r b) = nats (b :: (wayU p r b).tail) from congrArg nats (wayU_cons HFo.out HAB.out.2)]; rfl)
      have HSZ := hide (show w10.heap.size ≤ w11.heap.size ∧ ∀ q, v2.ownBlock = some q → q < w10.heap.size from ⟨by have := hb11.size; simp at this; omega, fun q hq => (ownG_lt HO10.out hq).2⟩)
      have HSZ1 := hide HSZ.out.1
      clear hb11 hiV
      go_wp2_with (at_builtin; go_loud (refine wpList_append_rd _ rfl (.tmp 136) (.tmp 139) 27 rfl w10.heap.size 3 i2 _ 1 8 Tryz.underlying27 hi2 hz0 hz1 hz2 rfl (by decide) (.slice (some ⟨w10.heap.size, 0, none⟩) 1 1) 1 [.int .i64 (b : Int)] rfl HOB.out aV (r b) kV ((nats (wayU p r b).tail).map iv) rfl (by rw [List.length_map, HNV.out, Nat.mul_one]) HRV.out (by intro u hu; obtain ⟨z, _, rfl⟩ := List.mem_map.1 hu; rfl) (by simp only [maxLen]; omega) (by omega) HSZ1.out ?_; intro v12 w12 hown hg1 hat1; have HO12 := hide hown; have HG12 := hide hg1; have HAT12 := hide hat1; clear hown hg1 hat1))
      have HO12 := hide (show w12.ownsRow w10.heap.size 3 1 v12 (1 + r b) ((nats (wayU p r b)).map iv) by rw [← HWB.out]; exact HO12.out)
      obtain ⟨gB, cB, hv12, hcB, hgB, hgB2⟩ := ownG_pos HO12.out (by omega)
      subst hv12
      have HOW12 := hide (ownG_grown HOW.out HG12.out (fun q hq h => by
        have h1 := HSZ.out.2 q hq
        injection h with h
        have h2 : w10.heap.size = q := h
        omega))
      have HNK := hide (show v2.ownBlock ≠ some gB from fun h => by have := HSZ.out.2 gB h; omega)
      have HB12 := hide (HB11.out.grown HG12.out HB11.out.size (fun q hq => by
        injection hq with hq
        have h2 : w10.heap.size = q := hq
        have := HB10.out.size
        omega))
      have HE12 := hide (HE39.out.trans (HB12.out.mono HE39.out.size))
      obtain ⟨mB, hmB⟩ : ∃ m, m = 1 + r b := ⟨_, rfl⟩
      rw [← hmB] at HO12 ⊢
      clear hgB hgB2 HAT12 HG12 HOW HOB HSZ HSZ1 HB11 HB10 HE11 HE10 HE10a HRV HNV HWB HO10
      obtain ⟨d0, d1, d2⟩ := HLC.out b w12 hab.2 HE12.out
      obtain ⟨e5, e6, e7⟩ := HLC.out y w12 hyn HE12.out
      have q1 : IntKind.i64.wrap ((r b : Int) - (r y : Int)) = (r b : Int) - (r y : Int) := wrap_ok (by omega) (by omega)
      have q2 : IntKind.i64.wrap ((r b : Int) - (r y : Int) - 1) = (r b : Int) - (r y : Int) - 1 := wrap_ok (by omega) (by omega)
      have q3 : (b : Int) < (c.T.n : Int) := by omega
      have q4 : (y : Int) < (c.T.n : Int) := by omega
      clear d0 d1 e5 e6
      go_quiet (fail)
      clear q1 q2 q3 q4 d2 e7
      obtain ⟨w13, hw13⟩ : ∃ W, W = w12.drewN nq := ⟨_, rfl⟩
      have hb13 : Below w12.heap.size w12 w13 := by rw [hw13]; exact bl_drewN (bl_refl w12) nq
      have HB13 := hide (HB12.out.trans (hb13.mono HB12.out.size))
      have HOB13 := hide (ownG_below HO12.out hb13)
      obtain ⟨s, hs⟩ : ∃ s, s = r b - r y := ⟨_, rfl⟩
      have HSE := hide hs
      have hmB4 : mB ≤ 8192 := by omega
      have hmB5 : (s : Int) < (mB : Int) := by omega
      have hmB6 : s < mB := by omega
      have HLB2 := hide (show (wayU p r b).length = mB by rw [HLB.out]; omega)
      have HLA2 := hide (show (wayU p r a).length = mA by rw [HLA.out]; omega)
      have HOW13 : Hid (w13.ownsRow w9.heap.size 3 1 v2 (t + 1 + (s - s)) ((nats (pathJ (wayU p r a) (wayU p r b) t s s)).map iv)) := hide (by
        rw [pathJ_all, Nat.sub_self, Nat.add_zero]
        exact ownG_below HOW12.out hb13)
      have HK0 : Hid ((((r b : Int) - (r y : Int) - 1) + 1).toNat = s) := hide (by omega)
      have htB : t ≤ 4096 := by omega
      have hsB : s ≤ 4096 := by omega
      clear hb13 HB12 HO12 HOW12 HE12
      go_wp2_with fail
      rw [← hw13]
      clear hw13
      go_loopw [16, 20] (fun ov kv wr => ∃ k : Int, kv = .int .i64 k ∧ -1 ≤ k ∧ k < s ∧ Hid (wr.ownsRow w9.heap.size 3 1 ov (t + 1 + (s - (k + 1).toNat)) ((nats (pathJ (wayU p r a) (wayU p r b) t s (k + 1).toNat)).map iv)) ∧ Hid (ov.ownBlock ≠ some gB) ∧ Hid (wr.ownsRow w10.heap.size 3 1 (.slice (some ⟨gB, 0, none⟩) mB cB) mB ((nats (wayU p r b)).map iv)) ∧ Hid (Below w9.heap.size w9 wr)) (fun _ kv _ => (intOf kv + 1).toNat)
      case atStart => exact ⟨(r b : Int) - (r y : Int) - 1, rfl, by omega, by omega, hide (by rw [HK0.out]; exact HOW13.out), HNK, HOB13, HB13⟩
      case round =>
        clear HNK hs hmB hmA
        obtain ⟨k, rfl, hk0, hks, HO, HNK, HOC, HEk⟩ := hrel
        obtain ⟨m, hm⟩ : ∃ m, m = t + 1 + (s - (k + 1).toNat) := ⟨_, rfl⟩
        have hO := HO.out
        rw [← hm] at hO
        have HM := hide hm
        have hmm : m ≤ 16384 := by omega
        have HML := hide (show m = (nats (pathJ (wayU p r a) (wayU p r b) t s (k + 1).toNat)).length by
          rw [nats_len, pathJ_len (by have := HLA2.out; omega) (by have := HLB2.out; omega) (by omega)]
          exact hm)
        obtain ⟨av, cv, hv, hcc, hcm2, hII⟩ := own_isI hO HML.out
        subst hv
        have HO := hide hO
        have HII := hide (And.intro hcc (And.intro hcm2 hII))
        clear hO hm hcc hcm2 hII
        by_cases hneg : k < 0
        · have hkk : ¬ (0 : Int) ≤ k := by omega
          have HRR := hide (show pathJ (wayU p r a) (wayU p r b) t s (k + 1).toNat = pathL p r a b y by
            rw [show (k + 1).toNat = 0 by omega]
            unfold pathJ pathL
            rw [← HTY.out, ← HSE.out, List.drop_zero])
          have HEr := hide (HE39.out.trans (HEk.out.mono HE39.out.size))
          obtain ⟨s0, s1, s2, s3, s4, s5, s6⟩ := HC3.out.below HEr.out
          go_wp2_with fail
          clear s0 s1 s2 s3 s4 s5 s6
          refine (HRO.out _ HEr.out).mono ?_
          rintro e w15 ⟨aR, mR, kR, f, rfl, hf1, hf2, hb15⟩
          have HE15 := hide (HEr.out.trans (hb15.mono HEr.out.size))
          have HIW := hide (HII.out.2.2.below hb15)
          rw [HRR.out] at HIW
          have HIP15 := hide (HIP.out.below (HE9.out.trans ((HEk.out.trans (hb15.mono HEk.out.size)).mono HE9.out.size)))
          have hmP : mP = m := by rw [HIP15.out.1, HIW.out.1]
          subst hmP
          have HSI : Hid (∀ wx, Below w15.heap.size w15 wx → Calls Tryz.prog 20 #[.slice aP mP kP, .slice av mP cv] wx fun e w' => e = .returned (.bool true) ∧ Below wx.heap.size wx w') := hide (fun wx hx => sameI_any aP av mP kP cv _ wx (HIP15.out.below hx) (HIW.out.below hx) (by omega))
          have hfy : f = true ↔ y = b := hf1.trans (lca_anc HFo.out HZ.out)
          clear hb15 hf1 HII HIP HIW HIP15 HRO HO HML HM HRR
          cases f
          · have hyb' : ((y : Int) == (b : Int)) = false := by
              rw [beq_eq_false_iff_ne]
              intro h
              have := hfy.2 (by omega)
              cases this
            clear hfy hf2
            go_wp2_with fail
            refine wp_region_K 34 (by kernel_rfl) (by kernel_rfl) (fun Q HQ => ?_)
            simp only [List.take_succ_cons, List.take_zero, List.map_cons, List.map_nil]
            repeat
              first
              | (refine wpS_skip (b := true) rfl (guard_mk rfl rfl) ?_)
              | (refine wpS_skip (b := false) rfl (guard_mk rfl rfl) ?_)
              | (refine wpS_skipU rfl (guardU_mk rfl rfl) ?_)
              | (first | apply wpS_c rfl | apply wpS_gc rfl (guard_mk rfl rfl)
                 focus
                   intro ev wx hC hx
                   (try simp [Op.operands, Call.operands, opndS, Slot.holds] at hx)
                   have hbs : Hid (Below w15.heap.size w15 wx) := hide (show Below w15.heap.size w15 wx from hC.below)
                   have hbh : Hid (Below w3.heap.size w3 wx) := hide (HE15.out.trans (hbs.out.mono HE15.out.size))
                   obtain ⟨d0, d1, d2⟩ := HLC.out a wx hab.1 hbh.out
                   obtain ⟨e5, e6, e7⟩ := HLC.out b wx hab.2 hbh.out
                   go_simp
                   try (first | exact rfl | exact ⟨Below.refl _ _, rfl⟩ | ((go_at_call 20; exact HSI.out _ hbs.out)) | ((go_at_call 9; exact HAW.out _ hbh.out)))
                   done)
              dsimp only [setS, List.set]
            refine wpS_nil (HQ _ fun w16 hC16 => ?_)
            simp only [closeS, List.drop_succ_cons, List.drop_zero, List.drop_nil]
            have HD16 := hide (HD3.out.trans ((HE15.out.trans ((show Below w15.heap.size w15 w16 from hC16.below).mono HE15.out.size)).mono HD3.out.size))
            clear HQ hC16
            go_wp2
            go_ret
            exact ⟨rfl, HD16.out⟩
          · have hyb' : ((y : Int) == (b : Int)) = true := by
              rw [beq_iff_eq]
              have := hfy.1 rfl
              omega
            have hmr := hf2 rfl
            have q1 : IntKind.i64.wrap ((r a : Int) - (r b : Int)) = (mR : Int) := by rw [wrap_ok (by omega) (by omega)]; omega
            clear hfy hf2 hmr
            go_wp2_with fail
            refine wp_region_K 34 (by kernel_rfl) (by kernel_rfl) (fun Q HQ => ?_)
            simp only [List.take_succ_cons, List.take_zero, List.map_cons, List.map_nil]
            repeat
              first
              | (refine wpS_skip (b := true) rfl (guard_mk rfl rfl) ?_)
              | (refine wpS_skip (b := false) rfl (guard_mk rfl rfl) ?_)
              | (refine wpS_skipU rfl (guardU_mk rfl rfl) ?_)
              | (first | apply wpS_c rfl | apply wpS_gc rfl (guard_mk rfl rfl)
                 focus
                   intro ev wx hC hx
                   (try simp [Op.operands, Call.operands, opndS, Slot.holds] at hx)
                   have hbs : Hid (Below w15.heap.size w15 wx) := hide (show Below w15.heap.size w15 wx from hC.below)
                   have hbh : Hid (Below w3.heap.size w3 wx) := hide (HE15.out.trans (hbs.out.mono HE15.out.size))
                   obtain ⟨d0, d1, d2⟩ := HLC.out a wx hab.1 hbh.out
                   obtain ⟨e5, e6, e7⟩ := HLC.out b wx hab.2 hbh.out
                   go_simp
                   try (first | exact rfl | exact ⟨Below.refl _ _, rfl⟩ | ((go_at_call 20; exact HSI.out _ hbs.out)) | ((go_at_call 9; exact HAW.out _ hbh.out)))
                   done)
              dsimp only [setS, List.set]
            refine wpS_nil (HQ _ fun w16 hC16 => ?_)
            simp only [closeS, List.drop_succ_cons, List.drop_zero, List.drop_nil]
            have HD16 := hide (HD3.out.trans ((HE15.out.trans ((show Below w15.heap.size w15 w16 from hC16.below).mono HE15.out.size)).mono HD3.out.size))
            clear HQ hC16
            go_wp2
            go_ret
            exact ⟨rfl, HD16.out⟩
        · obtain ⟨k, rfl⟩ := Int.eq_ofNat_of_zero_le (show 0 ≤ k by omega)
          have hkk : (0 : Int) ≤ (k : Int) := by omega
          have hkB : ¬ (mB : Int) ≤ (k : Int) := by omega
          have hkB2 : (k : Int) < (mB : Int) := by omega
          obtain ⟨x, hx⟩ : ∃ x, (wayU p r b)[k]? = some x := ⟨_, List.getElem?_eq_getElem (by rw [HLB2.out]; omega)⟩
          have f1 := own_at_i HOC.out (nats_at hx) (by omega)
          have HPJ := hide (show (nats (pathJ (wayU p r a) (wayU p r b) t s ((k : Int) + 1).toNat)).map iv ++ [.int .i64 (x : Int)] = (nats (pathJ (wayU p r a) (wayU p r b) t s (((k : Int) - 1) + 1).toNat)).map iv by
            rw [show ((k : Int) + 1).toNat = k + 1 by omega, show (((k : Int) - 1) + 1).toNat = k by omega, pathJ_step (by omega) hx]
            unfold nats
            rw [List.map_append, List.map_append]
            rfl)
          have HMN := hide (show m + 1 = t + 1 + (s - (((k : Int) - 1) + 1).toNat) by have := HM.out; omega)
          have HRL := hide (rd_lit wr #[.int .i64 (x : Int)] 3 (0, 0))
          have HBA := hide (bl_alloc HEk.out (.cells #[.int .i64 (x : Int)] 3 (0, 0)))
          have hba := bl_alloc (bl_refl wr) (.cells #[.int .i64 (x : Int)] 3 (0, 0))
          have HOD := hide (ownG_below HO.out hba)
          have HOE := hide (ownG_below HOC.out hba)
          have HSA := hide HBA.out.size
          have HSW := hide (show gB < (wr.alloc (.cells #[.int .i64 (x : Int)] 3 (0, 0))).heap.size from (ownG_lt HOE.out (k := gB) rfl).2)
          clear hx hba
          go_wp2_with (at_builtin; go_loud (refine wpList_append_rd _ rfl (.tmp 161) (.tmp 166) 27 rfl w9.heap.size 3 i2 _ 1 8 Tryz.underlying27 hi2 hz0 hz1 hz2 rfl (by decide) (.slice av m cv) m _ rfl HOD.out (some ⟨wr.heap.size, 0, none⟩) 1 1 [.int .i64 (x : Int)] rfl rfl HRL.out (by intro u hu; simp at hu; subst hu; rfl) (by simp only [maxLen]; omega) (by omega) HSA.out ?_; intro v5 w16 hown hg1 hat1; have HO16 := hide hown; have HG16 := hide hg1; have HAT16 := hide hat1; clear hown hg1 hat1))
          have HO17 : Hid (w16.ownsRow w9.heap.size 3 1 v5 (t + 1 + (s - (((k : Int) - 1) + 1).toNat)) ((nats (pathJ (wayU p r a) (wayU p r b) t s (((k : Int) - 1) + 1).toNat)).map iv)) := hide (by rw [← HMN.out, ← HPJ.out]; exact HO16.out)
          have HB16 := hide (HBA.out.grown HG16.out HBA.out.size (fun q hq => (ownG_lt HOD.out hq).1))
          have HOF := hide (ownG_grown HOE.out HG16.out (fun q hq => by injection hq with hq; subst hq; exact HNK.out))
          have HNK2 : Hid (v5.ownBlock ≠ some gB) := hide (by
            rcases HAT16.out with h | h
            · rw [h]; exact HNK.out
            · rw [h]
              intro h1
              injection h1 with h1
              have := HSW.out
              omega)
          go_wp2
          go_roundw
          case rel => exact ⟨(k : Int) - 1, rfl, by omega, by omega, HO17, HNK2, HOF, HB16⟩
          case measure => simp [intOf] <;> omega
    · have he : ((x' : Int) == (y : Int)) = false := by rw [beq_eq_false_iff_ne]; omega
      have htl : t < r a - r y := by
        rcases Nat.lt_or_ge t (r a - r y) with h1 | h1
        · exact h1
        · exfalso
          have h2 := HAT.out.1
          rw [show r a - r y = t by omega, HY.out] at h2
          injection h2 with h2
          exact hxy h2
      clear hxy
      go_wp2_with (at_builtin; go_loud (refine wpList_append_rd _ rfl (.tmp 127) (.tmp 129) 27 rfl w9.heap.size 3 i2 _ 1 8 Tryz.underlying27 hi2 hz0 hz1 hz2 rfl (by decide) (.slice av t cv) t _ rfl HOD.out (some ⟨wr.heap.size, 0, none⟩) 1 1 [.int .i64 (x' : Int)] rfl rfl HRL.out (by intro u hu; simp at hu; subst hu; rfl) (by simp only [maxLen]; omega) (by omega) HSA.out ?_; intro v2 w10 hown hg1 hat1; have HO8 := hide hown; have HB10 := hide (HBA.out.grown hg1 HSA.out (fun q hq => (ownG_lt HOD.out hq).1)); clear hown hg1 hat1; skip))
      have HO10 : Hid (w10.ownsRow w9.heap.size 3 1 v2 (t + 1) ((nats ((wayU p r a).take (t + 1))).map iv)) := hide (by rw [← HTK.out]; exact HO8.out)
      clear HO8 HTK HRL HBA HOD HSA
      go_wp2
      go_roundw
      case rel => exact ⟨_, _, _, ⟨t + 1, by go_num, by omega, HO10⟩, rfl, rfl, rfl⟩
      case measure => simp [intOf]; omega
end Go.Proofs.YtbpkclopcoaikaaGreatDoor
