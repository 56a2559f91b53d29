/- The walk of the reference's heads: without an error they are in range, and no way along them leads back. -/
import Derived.Test.YtbpkclopcoaikaaGreatDoorMk
namespace Go.Proofs.YtbpkclopcoaikaaGreatDoor
open Go.RowKit
set_option linter.unusedVariables false
set_option linter.unusedSimpArgs false
/-- The text that contains a position, -1 if there is none. -/
def txtI (l : List Tx) (p : Int) : Int := match l.findIdx? (fun t => decide (t.b ≤ p ∧ p < t.e)) with
  | some k => (k : Int)
  | none => -1
theorem txtI_some {l : List Tx} {p : Int} {k : Nat} {t : Tx} (ht : l[k]? = some t) (h1 : t.b ≤ p) (h2 : p < t.e) (hb : ∀ (j : Nat) (t' : Tx), j < k → l[j]? = some t' → ¬ (t'.b ≤ p ∧ p < t'.e)) : txtI l p = (k : Int) := by
  have h : l.findIdx? (fun t => decide (t.b ≤ p ∧ p < t.e)) = some k := by
    rw [List.findIdx?_eq_some_iff_getElem]
    obtain ⟨hk, e⟩ := List.getElem?_eq_some_iff.1 ht
    refine ⟨hk, by rw [e]; simp [h1, h2], fun j hj => ?_⟩
    have := hb j _ hj (List.getElem?_eq_getElem (by omega))
    simpa using this
  unfold txtI; rw [h]
theorem txtI_none {l : List Tx} {p : Int} (hb : ∀ (j : Nat) (t' : Tx), l[j]? = some t' → ¬ (t'.b ≤ p ∧ p < t'.e)) : txtI l p = -1 := by
  have h : l.findIdx? (fun t => decide (t.b ≤ p ∧ p < t.e)) = none := by
    rw [List.findIdx?_eq_none_iff]
    intro x hx
    obtain ⟨j, hj, e⟩ := List.getElem_of_mem hx
    have := hb j x (by rw [List.getElem?_eq_getElem hj, e])
    simpa using this
  unfold txtI; rw [h]
set_option maxHeartbeats 4000000 in
set_option maxRecDepth 100000 in
theorem textAt_fun (c : Cv) (l : List Tx) (p : Int) (w : World) (h : IsX w c.X.a c.X.n l) (hn : c.X.n ≤ big) : Calls Tryz.prog 88 #[c.v, .int .i64 p] w fun e w' => e = .returned (.int .i64 (txtI l p)) ∧ Below w.heap.size w w' := by
  have HI := hide h
  clear h
  obtain ⟨cA, cT, ⟨aX, nX, cX⟩, cR, cN, cH, cL⟩ := c
  simp only [big] at HI hn ⊢
  have HB := hide (bl_alloc (bl_refl w) (Cv.mk cA cT ⟨aX, nX, cX⟩ cR cN cH cL).o)
  obtain ⟨R, hR⟩ : ∃ R, R = txtI l p := ⟨_, rfl⟩
  rw [← hR]
  have HR := hide hR
  clear hR
  go_enter Tryz.func88, Tryz.ntmps88
  go_wp2_with fail
  go_loopw [10] (fun kv wr => ∃ (k : Nat), kv = .int .i64 (k : Int) ∧ k ≤ nX ∧ Hid (∀ (j : Nat) (t' : Tx), j < k → l[j]? = some t' → ¬ (t'.b ≤ p ∧ p < t'.e)) ∧ Hid (Below w.heap.size w wr)) (fun kv _ => nX - (intOf kv).toNat)
  case atStart => exact ⟨0, rfl, Nat.zero_le _, hide (fun j t h => absurd h (Nat.not_lt_zero _)), HB⟩
  case round =>
    obtain ⟨k, rfl, hk, HG, HBk⟩ := hrel
    by_cases hkn : k < nX
    · have hki : (k : Int) < (nX : Int) := by omega
      obtain ⟨b, o, ⟨xl, xb, xe, xs, xp⟩, rfl, hbl, hx, -, e0', e1, e2, e3⟩ := (HI.out.below HBk.out).at_ hkn
      simp only at e0' e1 e2 e3
      have HB2 := hide (bl_alloc HBk.out (.cells #[.string (bstr xl), .int .i64 xb, .int .i64 xe, .slice xs.a xs.n xs.c] 88 (0, 0)))
      have HX := hide hx
      clear hx
      by_cases h1 : xb ≤ p
      · by_cases h2 : p < xe
        · have HE := hide (txtI_some HX.out h1 h2 HG.out)
          go_wp2
          go_ret
          exact ⟨by rw [HR.out, HE.out]; rfl, HB2.out⟩
        · skip
          have HG2 : Hid (∀ (j : Nat) (t' : Tx), j < k + 1 → l[j]? = some t' → ¬ (t'.b ≤ p ∧ p < t'.e)) := hide (fun j t' hj ht => by
            rcases Nat.lt_or_ge j k with h | h
            · exact HG.out j t' h ht
            · obtain rfl : j = k := by omega
              rw [HX.out] at ht
              injection ht with ht
              subst ht
              simp only
              omega)
          go_wp2
          go_roundw
          case rel => exact ⟨k + 1, by go_num, by omega, HG2, HB2⟩
          case measure => simp [intOf]; omega
      · skip
        have HG2 : Hid (∀ (j : Nat) (t' : Tx), j < k + 1 → l[j]? = some t' → ¬ (t'.b ≤ p ∧ p < t'.e)) := hide (fun j t' hj ht => by
          rcases Nat.lt_or_ge j k with h | h
          · exact HG.out j t' h ht
          · obtain rfl : j = k := by omega
            rw [HX.out] at ht
            injection ht with ht
            subst ht
            simp only
            omega)
        go_wp2
        go_roundw
        case rel => exact ⟨k + 1, by go_num, by omega, HG2, HB2⟩
        case measure => simp [intOf]; omega
    · obtain rfl : k = nX := by omega
      have HE := hide (txtI_none (l := l) (p := p) (fun j t' ht => HG.out j t' (by have := (List.getElem?_eq_some_iff.1 ht).1; have := HI.out.len; omega) ht))
      clear hkn
      go_wp2
      go_ret
      exact ⟨by rw [HR.out, HE.out]; rfl, HBk.out⟩
def HeadsOk (p : List Int) (n : Nat) : Prop := (p.length = 0 ∨ p.length = n) ∧ ∀ (i : Nat) (x : Int), p[i]? = some x → (-1 ≤ x ∧ x < p.length) ∧ cycF p i p.length i = false
def HeadsP (p : List Int) (n : Nat) (w : World) (e : Ending) (w' : World) : Prop := ∃ x y : Int, e = .returned (.tuple #[.int .i64 x, .int .i64 y]) ∧ Below w.heap.size w w' ∧ (y = 0 → HeadsOk p n)
set_option maxHeartbeats 16000000 in
set_option maxRecDepth 100000 in
theorem rheads_any (c : Cv) (d : Cd) (w : World) (h : IsCo w c d) (hf : CFit c) : Calls Tryz.prog 60 #[c.v] w (HeadsP d.H c.T.n w) := by
  have HX := hide h.X
  have HH := hide h.H
  have HL := hide h.L
  have hfx := hf.X
  have hfh := hf.H
  have hfl := hf.L
  have hft := hf.T
  clear h hf
  obtain ⟨cA, ⟨aT, nT, cT⟩, ⟨aX, nX, cX⟩, cR, cN, ⟨aH, nH, cH⟩, ⟨aL, nL, cL⟩⟩ := c
  simp only [big] at HX HH HL hfx hfh hfl hft ⊢
  obtain ⟨W0, hW0⟩ : ∃ W0, W0 = w.alloc (Cv.mk cA ⟨aT, nT, cT⟩ ⟨aX, nX, cX⟩ cR cN ⟨aH, nH, cH⟩ ⟨aL, nL, cL⟩).o := ⟨_, rfl⟩
  have HB := hide (bl_alloc (bl_refl w) (Cv.mk cA ⟨aT, nT, cT⟩ ⟨aX, nX, cX⟩ cR cN ⟨aH, nH, cH⟩ ⟨aL, nL, cL⟩).o)
  have HC := hide (CCells.new w (Cv.mk cA ⟨aT, nT, cT⟩ ⟨aX, nX, cX⟩ cR cN ⟨aH, nH, cH⟩ ⟨aL, nL, cL⟩))
  have HE0 : Hid (Below w.heap.size w (w.alloc (Cv.mk cA ⟨aT, nT, cT⟩ ⟨aX, nX, cX⟩ cR cN ⟨aH, nH, cH⟩ ⟨aL, nL, cL⟩).o)) := hide (bl_alloc (bl_refl w) _)
  rw [← hW0] at HB HC
  have HX0 := hide (HX.out.below HB.out)
  have HH0 := hide (HH.out.below HB.out)
  have HL0 := hide (HL.out.below HB.out)
  have HTA : Hid (∀ (p : Int) (wx : World), Below W0.heap.size W0 wx → Calls Tryz.prog 88 #[(Cv.mk cA ⟨aT, nT, cT⟩ ⟨aX, nX, cX⟩ cR cN ⟨aH, nH, cH⟩ ⟨aL, nL, cL⟩).v, .int .i64 p] wx fun e w' => e = .returned (.int .i64 (txtI d.X p)) ∧ Below wx.heap.size wx w') := hide (fun p wx hwx => textAt_fun (Cv.mk cA ⟨aT, nT, cT⟩ ⟨aX, nX, cX⟩ cR cN ⟨aH, nH, cH⟩ ⟨aL, nL, cL⟩) d.X p wx (HX0.out.below hwx) (by simp only [big]; omega))
  generalize d.X = X at *
  generalize d.H = p at *
  generalize d.L = q at *
  have HPN := hide HH.out.1
  go_enter Tryz.func60, Tryz.ntmps60
  by_cases hnl : nH = nL
  case neg =>
    have h1 : ((nH : Int) != (nL : Int)) = true := by rw [bne_iff_ne]; omega
    clear hW0
    go_wp2
    go_ret2
    exact ⟨_, _, rfl, HE0.out, fun h => by simp at h⟩
  have h1 : ((nH : Int) != (nL : Int)) = false := by rw [bne_eq_false_iff_eq]; omega
  have HNL := hide hnl
  clear hnl
  by_cases hn0 : nH = 0
  case neg =>
    have h2 : ((nH : Int) != 0) = true := by rw [bne_iff_ne]; omega
    by_cases hnt : nH = nT
    case neg =>
      have h3 : ((nH : Int) != (nT : Int)) = true := by rw [bne_iff_ne]; omega
      clear hW0
      go_wp2
      go_ret2
      exact ⟨_, _, rfl, HE0.out, fun h => by simp at h⟩
    have h3 : ((nH : Int) != (nT : Int)) = false := by rw [bne_eq_false_iff_eq]; omega
    have HNT : Hid (p.length = 0 ∨ p.length = nT) := hide (.inr (by rw [← HPN.out]; exact hnt))
    have h4 : (0 : Int) < (nH : Int) := by omega
    clear hnt hn0
    go_wp2_with fail
    rw [← hW0]
    refine (bare_any aH aL nH cH nL cL p q _ HH0.out HL0.out (by simp only [big]; omega) HNL.out).mono ?_
    rintro e w1 ⟨b, rfl, hb1⟩
    have HB1 := hide (HB.out.trans (hb1.mono HB.out.size))
    have HE1 := hide hb1
    clear hW0 hb1 HE0 h1 h2 h3 h4
    cases b
    case true =>
      go_wp2
      go_ret2
      exact ⟨_, _, rfl, HB1.out, fun h => by simp at h⟩
    obtain ⟨s0, s1, s2, s3, s4, s5, s6⟩ := HC.out.below HE1.out
    simp only at s0 s1 s2 s3 s4 s5 s6
    go_wp2_with fail
    clear s0 s1 s2 s3 s4 s5 s6
    go_loopw [38] (fun kv wr => ∃ (k : Nat), kv = .int .i64 (k : Int) ∧ k ≤ nH ∧ Hid (∀ (i : Nat) (x : Int), i < k → p[i]? = some x → (-1 ≤ x ∧ x < p.length) ∧ cycF p i p.length i = false) ∧ Hid (Below W0.heap.size W0 wr)) (fun kv _ => nH - (intOf kv).toNat)
    case atStart => exact ⟨0, rfl, Nat.zero_le _, hide (fun i x h => absurd h (Nat.not_lt_zero _)), HE1⟩
    case round =>
      obtain ⟨k, rfl, hk, HG, HEk⟩ := hrel
      have HBk := hide (HB.out.trans (HEk.out.mono HB.out.size))
      by_cases hkn : k < nH
      · have hki : (k : Int) < (nH : Int) := by omega
        obtain ⟨b, o, y, ha, hbl, hy, e0⟩ := (HH0.out.below HEk.out).at_ hkn
        have HY := hide hy
        subst ha
        clear hy hbl
        by_cases hy1 : y = -1
        · subst hy1
          have hbn : ((-1 : Int) != -1) = false := by decide
          have HXR : Hid (-1 ≤ (-1 : Int) ∧ (-1 : Int) < p.length) := hide (by omega)
          go_wp2_with fail
          refine wp_region_K 17 (by kernel_rfl) (by kernel_rfl) (fun Q HQ => ?_)
          simp only [List.take_succ_cons, List.take_zero, List.map_cons, List.map_nil]
          repeat
            first
            | (refine wpS_skip (b := true) rfl (guard_mk rfl rfl) ?_)
            | (refine wpS_skip (b := false) rfl (guard_mk rfl rfl) ?_)
            | (refine wpS_skipU rfl (guardU_mk rfl rfl) ?_)
            | (first | apply wpS_c rfl | apply wpS_gc rfl (guard_mk rfl rfl)
               focus
                 intro ev wx hC hx
                 (try simp [Op.operands, Call.operands, opndS, Slot.holds] at hx)
                 go_simp
                 try (first | exact rfl | exact ⟨Below.refl _ _, rfl⟩)
                 done)
            dsimp only [setS, List.set]
          refine wpS_nil (HQ _ fun w5 hC5 => ?_)
          simp only [closeS, List.drop_succ_cons, List.drop_zero, List.drop_nil]
          have HE3 := hide (HEk.out.trans (hC5.below.mono HEk.out.size))
          have HD3 := hide (HB.out.trans (HE3.out.mono HB.out.size))
          clear HQ hC5
          have HR3 := hide (HL0.out.below HE3.out)
          obtain ⟨b2, o2, s, rfl, hbl2, hs, f0⟩ := HR3.out.at_ (show k < nL by have := HNL.out; omega)
          have hkl : (k : Int) < (nL : Int) := by have := HNL.out; omega
          obtain ⟨s0, s1, s2, s3, s4, s5, s6⟩ := HC.out.below HE3.out
          simp only at s0 s1 s2 s3 s4 s5 s6
          clear hs hbl2
          by_cases hse : s = []
          · subst hse
            skip
            rcases hcy : cycF p k nH k with _ | _
            case true =>
              have HCY : Hid (∀ wx, Below W0.heap.size W0 wx → Calls Tryz.prog 89 #[.slice (some ⟨b, o, none⟩) nH cH, .int .i64 (k : Int)] wx fun e w' => e = .returned (.bool true) ∧ wx = w') := hide (fun wx hwx => by
                have := cyclic_any (some ⟨b, o, none⟩) nH cH k p wx (HH0.out.below hwx) (by simp only [big]; omega) hkn
                rw [hcy] at this
                exact this)
              clear hcy
              go_wp2_with (fail)
              skip
              refine (HCY.out _ HE3.out).mono ?_
              rintro e w' ⟨rfl, rfl⟩
              go_wp2
              go_ret2
              exact ⟨_, _, rfl, HD3.out, fun h => by simp at h⟩
            have HCY : Hid (∀ wx, Below W0.heap.size W0 wx → Calls Tryz.prog 89 #[.slice (some ⟨b, o, none⟩) nH cH, .int .i64 (k : Int)] wx fun e w' => e = .returned (.bool false) ∧ wx = w') := hide (fun wx hwx => by
              have := cyclic_any (some ⟨b, o, none⟩) nH cH k p wx (HH0.out.below hwx) (by simp only [big]; omega) hkn
              rw [hcy] at this
              exact this)
            have HG2 : Hid (∀ (i : Nat) (x : Int), i < k + 1 → p[i]? = some x → (-1 ≤ x ∧ x < p.length) ∧ cycF p i p.length i = false) := hide (fun i x hi hx => by
              rcases Nat.lt_or_ge i k with h | h
              · exact HG.out i x h hx
              · obtain rfl : i = k := by omega
                rw [HY.out] at hx
                injection hx with hx
                subst hx
                exact ⟨HXR.out, by rw [← HPN.out]; exact hcy⟩)
            clear hcy
            go_wp2_with (fail)
            skip
            refine (HCY.out _ HE3.out).mono ?_
            rintro e w' ⟨rfl, rfl⟩
            go_wp2
            go_roundw
            case rel => exact ⟨k + 1, by go_num, by omega, HG2, HE3⟩
            case measure => simp [intOf]; omega
          · have hz : s.isEmpty = false := by simp [hse]
            rcases hnb : nameB s with _ | _
            · have HF : Hid (∀ wx, Calls Tryz.prog 82 #[.string (bstr s)] wx fun e w' => e = .returned (.bool false) ∧ wx = w') := hide (fun wx => hnb ▸ rname_any s wx)
              clear hnb
              go_wp2_with fail
              refine (HF.out _).mono ?_
              rintro e w' ⟨rfl, rfl⟩
              go_wp2
              go_ret2
              exact ⟨_, _, rfl, HD3.out, fun h => by simp at h⟩
            · have HF : Hid (∀ wx, Calls Tryz.prog 82 #[.string (bstr s)] wx fun e w' => e = .returned (.bool true) ∧ wx = w') := hide (fun wx => hnb ▸ rname_any s wx)
              clear hnb
              rcases hcy : cycF p k nH k with _ | _
              case true =>
                have HCY : Hid (∀ wx, Below W0.heap.size W0 wx → Calls Tryz.prog 89 #[.slice (some ⟨b, o, none⟩) nH cH, .int .i64 (k : Int)] wx fun e w' => e = .returned (.bool true) ∧ wx = w') := hide (fun wx hwx => by
                  have := cyclic_any (some ⟨b, o, none⟩) nH cH k p wx (HH0.out.below hwx) (by simp only [big]; omega) hkn
                  rw [hcy] at this
                  exact this)
                clear hcy
                go_wp2_with (fail)
                (refine (HF.out _).mono ?_; rintro e w' ⟨rfl, rfl⟩; go_wp2_with fail)
                refine (HCY.out _ HE3.out).mono ?_
                rintro e w' ⟨rfl, rfl⟩
                go_wp2
                go_ret2
                exact ⟨_, _, rfl, HD3.out, fun h => by simp at h⟩
              have HCY : Hid (∀ wx, Below W0.heap.size W0 wx → Calls Tryz.prog 89 #[.slice (some ⟨b, o, none⟩) nH cH, .int .i64 (k : Int)] wx fun e w' => e = .returned (.bool false) ∧ wx = w') := hide (fun wx hwx => by
                have := cyclic_any (some ⟨b, o, none⟩) nH cH k p wx (HH0.out.below hwx) (by simp only [big]; omega) hkn
                rw [hcy] at this
                exact this)
              have HG2 : Hid (∀ (i : Nat) (x : Int), i < k + 1 → p[i]? = some x → (-1 ≤ x ∧ x < p.length) ∧ cycF p i p.length i = false) := hide (fun i x hi hx => by
                rcases Nat.lt_or_ge i k with h | h
                · exact HG.out i x h hx
                · obtain rfl : i = k := by omega
                  rw [HY.out] at hx
                  injection hx with hx
                  subst hx
                  exact ⟨HXR.out, by rw [← HPN.out]; exact hcy⟩)
              clear hcy
              go_wp2_with (fail)
              (refine (HF.out _).mono ?_; rintro e w' ⟨rfl, rfl⟩; go_wp2_with fail)
              refine (HCY.out _ HE3.out).mono ?_
              rintro e w' ⟨rfl, rfl⟩
              go_wp2
              go_roundw
              case rel => exact ⟨k + 1, by go_num, by omega, HG2, HE3⟩
              case measure => simp [intOf]; omega
        · have hbn : (y != -1) = true := by rw [bne_iff_ne]; exact hy1
          by_cases hy0 : y < 0
          · go_wp2_with fail
            refine wp_region_K 17 (by kernel_rfl) (by kernel_rfl) (fun Q HQ => ?_)
            simp only [List.take_succ_cons, List.take_zero, List.map_cons, List.map_nil]
            repeat
              first
              | (refine wpS_skip (b := true) rfl (guard_mk rfl rfl) ?_)
              | (refine wpS_skip (b := false) rfl (guard_mk rfl rfl) ?_)
              | (refine wpS_skipU rfl (guardU_mk rfl rfl) ?_)
              | (first | apply wpS_c rfl | apply wpS_gc rfl (guard_mk rfl rfl)
                 focus
                   intro ev wx hC hx
                   (try simp [Op.operands, Call.operands, opndS, Slot.holds] at hx)
                   go_simp
                   try (first | exact rfl | exact ⟨Below.refl _ _, rfl⟩)
                   done)
              dsimp only [setS, List.set]
            refine wpS_nil (HQ _ fun w5 hC5 => ?_)
            simp only [closeS, List.drop_succ_cons, List.drop_zero, List.drop_nil]
            have HE3 := hide (HEk.out.trans (hC5.below.mono HEk.out.size))
            have HD3 := hide (HB.out.trans (HE3.out.mono HB.out.size))
            clear HQ hC5
            go_wp2
            go_ret2
            exact ⟨_, _, rfl, HD3.out, fun h => by simp at h⟩
          have hy0d : decide (y < 0) = false := by rw [decide_eq_false_iff_not]; exact hy0
          by_cases hyn : (nH : Int) ≤ y
          · have hynd : decide ((nH : Int) ≤ y) = true := by rw [decide_eq_true_iff]; exact hyn
            go_wp2_with fail
            refine wp_region_K 17 (by kernel_rfl) (by kernel_rfl) (fun Q HQ => ?_)
            simp only [List.take_succ_cons, List.take_zero, List.map_cons, List.map_nil]
            repeat
              first
              | (refine wpS_skip (b := true) rfl (guard_mk rfl rfl) ?_)
              | (refine wpS_skip (b := false) rfl (guard_mk rfl rfl) ?_)
              | (refine wpS_skipU rfl (guardU_mk rfl rfl) ?_)
              | (first | apply wpS_c rfl | apply wpS_gc rfl (guard_mk rfl rfl)
                 focus
                   intro ev wx hC hx
                   (try simp [Op.operands, Call.operands, opndS, Slot.holds] at hx)
                   go_simp
                   try (first | exact rfl | exact ⟨Below.refl _ _, rfl⟩)
                   done)
              dsimp only [setS, List.set]
            refine wpS_nil (HQ _ fun w5 hC5 => ?_)
            simp only [closeS, List.drop_succ_cons, List.drop_zero, List.drop_nil]
            have HE3 := hide (HEk.out.trans (hC5.below.mono HEk.out.size))
            have HD3 := hide (HB.out.trans (HE3.out.mono HB.out.size))
            clear HQ hC5
            go_wp2
            go_ret2
            exact ⟨_, _, rfl, HD3.out, fun h => by simp at h⟩
          have hynd : decide ((nH : Int) ≤ y) = false := by rw [decide_eq_false_iff_not]; exact hyn
          have HXR : Hid (-1 ≤ y ∧ y < p.length) := hide (by rw [← HPN.out]; omega)
          have HT1 : Hid (∀ (q : Int) wx, CB wr.drew wx → Calls Tryz.prog 88 #[(Cv.mk cA ⟨aT, nT, cT⟩ ⟨aX, nX, cX⟩ cR cN ⟨some ⟨b, o, none⟩, nH, cH⟩ ⟨aL, nL, cL⟩).v, .int .i64 q] wx fun e w' => e = .returned (.int .i64 (txtI X q)) ∧ Below wx.heap.size wx w') := hide (fun q wx h => HTA.out q wx (HEk.out.trans (h.below.mono HEk.out.size)))
          go_wp2_with fail
          refine wp_region_K 17 (by kernel_rfl) (by kernel_rfl) (fun Q HQ => ?_)
          simp only [List.take_succ_cons, List.take_zero, List.map_cons, List.map_nil]
          repeat
            first
            | (refine wpS_skip (b := true) rfl (guard_mk rfl rfl) ?_)
            | (refine wpS_skip (b := false) rfl (guard_mk rfl rfl) ?_)
            | (refine wpS_skipU rfl (guardU_mk rfl rfl) ?_)
            | (first | apply wpS_c rfl | apply wpS_gc rfl (guard_mk rfl rfl)
               focus
                 intro ev wx hC hx
                 (try simp [Op.operands, Call.operands, opndS, Slot.holds] at hx)
                 obtain ⟨s0, s1, s2, s3, s4, s5, s6⟩ := HC.out.below (HEk.out.trans (hC.below.mono HEk.out.size))
                 simp only at s0 s1 s2 s3 s4 s5 s6
                 go_simp
                 try (first | exact rfl | exact ⟨Below.refl _ _, rfl⟩ | ((refine (HT1.out _ wx hC).mono ?_; rintro e w' ⟨rfl, hb⟩; exact ⟨rfl, hb⟩)))
                 done)
            dsimp only [setS, List.set]
          refine wpS_nil (HQ _ fun w5 hC5 => ?_)
          simp only [closeS, List.drop_succ_cons, List.drop_zero, List.drop_nil]
          have HE3 := hide (HEk.out.trans (hC5.below.mono HEk.out.size))
          have HD3 := hide (HB.out.trans (HE3.out.mono HB.out.size))
          clear HQ hC5
          by_cases htt : txtI X y = txtI X (k : Int)
          · have htt' : (txtI X y != txtI X (k : Int)) = false := by rw [bne_eq_false_iff_eq]; exact htt
            clear htt HT1
            have HR3 := hide (HL0.out.below HE3.out)
            obtain ⟨b2, o2, s, rfl, hbl2, hs, f0⟩ := HR3.out.at_ (show k < nL by have := HNL.out; omega)
            have hkl : (k : Int) < (nL : Int) := by have := HNL.out; omega
            obtain ⟨s0, s1, s2, s3, s4, s5, s6⟩ := HC.out.below HE3.out
            simp only at s0 s1 s2 s3 s4 s5 s6
            clear hs hbl2
            by_cases hse : s = []
            · subst hse
              skip
              rcases hcy : cycF p k nH k with _ | _
              case true =>
                have HCY : Hid (∀ wx, Below W0.heap.size W0 wx → Calls Tryz.prog 89 #[.slice (some ⟨b, o, none⟩) nH cH, .int .i64 (k : Int)] wx fun e w' => e = .returned (.bool true) ∧ wx = w') := hide (fun wx hwx => by
                  have := cyclic_any (some ⟨b, o, none⟩) nH cH k p wx (HH0.out.below hwx) (by simp only [big]; omega) hkn
                  rw [hcy] at this
                  exact this)
                clear hcy
                go_wp2_with (fail)
                skip
                refine (HCY.out _ HE3.out).mono ?_
                rintro e w' ⟨rfl, rfl⟩
                go_wp2
                go_ret2
                exact ⟨_, _, rfl, HD3.out, fun h => by simp at h⟩
              have HCY : Hid (∀ wx, Below W0.heap.size W0 wx → Calls Tryz.prog 89 #[.slice (some ⟨b, o, none⟩) nH cH, .int .i64 (k : Int)] wx fun e w' => e = .returned (.bool false) ∧ wx = w') := hide (fun wx hwx => by
                have := cyclic_any (some ⟨b, o, none⟩) nH cH k p wx (HH0.out.below hwx) (by simp only [big]; omega) hkn
                rw [hcy] at this
                exact this)
              have HG2 : Hid (∀ (i : Nat) (x : Int), i < k + 1 → p[i]? = some x → (-1 ≤ x ∧ x < p.length) ∧ cycF p i p.length i = false) := hide (fun i x hi hx => by
                rcases Nat.lt_or_ge i k with h | h
                · exact HG.out i x h hx
                · obtain rfl : i = k := by omega
                  rw [HY.out] at hx
                  injection hx with hx
                  subst hx
                  exact ⟨HXR.out, by rw [← HPN.out]; exact hcy⟩)
              clear hcy
              go_wp2_with (fail)
              skip
              refine (HCY.out _ HE3.out).mono ?_
              rintro e w' ⟨rfl, rfl⟩
              go_wp2
              go_roundw
              case rel => exact ⟨k + 1, by go_num, by omega, HG2, HE3⟩
              case measure => simp [intOf]; omega
            · have hz : s.isEmpty = false := by simp [hse]
              rcases hnb : nameB s with _ | _
              · have HF : Hid (∀ wx, Calls Tryz.prog 82 #[.string (bstr s)] wx fun e w' => e = .returned (.bool false) ∧ wx = w') := hide (fun wx => hnb ▸ rname_any s wx)
                clear hnb
                go_wp2_with fail
                refine (HF.out _).mono ?_
                rintro e w' ⟨rfl, rfl⟩
                go_wp2
                go_ret2
                exact ⟨_, _, rfl, HD3.out, fun h => by simp at h⟩
              · have HF : Hid (∀ wx, Calls Tryz.prog 82 #[.string (bstr s)] wx fun e w' => e = .returned (.bool true) ∧ wx = w') := hide (fun wx => hnb ▸ rname_any s wx)
                clear hnb
                rcases hcy : cycF p k nH k with _ | _
                case true =>
                  have HCY : Hid (∀ wx, Below W0.heap.size W0 wx → Calls Tryz.prog 89 #[.slice (some ⟨b, o, none⟩) nH cH, .int .i64 (k : Int)] wx fun e w' => e = .returned (.bool true) ∧ wx = w') := hide (fun wx hwx => by
                    have := cyclic_any (some ⟨b, o, none⟩) nH cH k p wx (HH0.out.below hwx) (by simp only [big]; omega) hkn
                    rw [hcy] at this
                    exact this)
                  clear hcy
                  go_wp2_with (fail)
                  (refine (HF.out _).mono ?_; rintro e w' ⟨rfl, rfl⟩; go_wp2_with fail)
                  refine (HCY.out _ HE3.out).mono ?_
                  rintro e w' ⟨rfl, rfl⟩
                  go_wp2
                  go_ret2
                  exact ⟨_, _, rfl, HD3.out, fun h => by simp at h⟩
                have HCY : Hid (∀ wx, Below W0.heap.size W0 wx → Calls Tryz.prog 89 #[.slice (some ⟨b, o, none⟩) nH cH, .int .i64 (k : Int)] wx fun e w' => e = .returned (.bool false) ∧ wx = w') := hide (fun wx hwx => by
                  have := cyclic_any (some ⟨b, o, none⟩) nH cH k p wx (HH0.out.below hwx) (by simp only [big]; omega) hkn
                  rw [hcy] at this
                  exact this)
                have HG2 : Hid (∀ (i : Nat) (x : Int), i < k + 1 → p[i]? = some x → (-1 ≤ x ∧ x < p.length) ∧ cycF p i p.length i = false) := hide (fun i x hi hx => by
                  rcases Nat.lt_or_ge i k with h | h
                  · exact HG.out i x h hx
                  · obtain rfl : i = k := by omega
                    rw [HY.out] at hx
                    injection hx with hx
                    subst hx
                    exact ⟨HXR.out, by rw [← HPN.out]; exact hcy⟩)
                clear hcy
                go_wp2_with (fail)
                (refine (HF.out _).mono ?_; rintro e w' ⟨rfl, rfl⟩; go_wp2_with fail)
                refine (HCY.out _ HE3.out).mono ?_
                rintro e w' ⟨rfl, rfl⟩
                go_wp2
                go_roundw
                case rel => exact ⟨k + 1, by go_num, by omega, HG2, HE3⟩
                case measure => simp [intOf]; omega
          · have htt' : (txtI X y != txtI X (k : Int)) = true := by rw [bne_iff_ne]; exact htt
            clear HT1
            go_wp2
            go_ret2
            exact ⟨_, _, rfl, HD3.out, fun h => by simp at h⟩
      · obtain rfl : k = nH := by omega
        have HR : Hid (HeadsOk p nT) := hide ⟨HNT.out, fun i x hx => HG.out i x (by have := (List.getElem?_eq_some_iff.1 hx).1; have := HPN.out; omega) hx⟩
        clear hkn
        go_wp2
        go_ret2
        exact ⟨_, _, rfl, HBk.out, fun _ => HR.out⟩
  have h2 : ((nH : Int) != 0) = false := by rw [bne_eq_false_iff_eq]; omega
  have h4 : ¬ (0 : Int) < (nH : Int) := by omega
  have HNT : Hid (p.length = 0 ∨ p.length = nT) := hide (.inl (by rw [← HPN.out]; exact hn0))
  have HE1 := hide (bl_refl W0)
  clear hn0
  go_wp2_with fail
  go_loopw [38] (fun kv wr => Hid (kv = .int .i64 0 ∧ Below w.heap.size w wr)) (fun kv _ => 0)
  case atStart => exact hide ⟨rfl, HE0.out⟩
  case round =>
    obtain ⟨rfl, HBk⟩ := hrel.out
    have HR : Hid (HeadsOk p nT) := hide ⟨HNT.out, fun i x hx => by have := (List.getElem?_eq_some_iff.1 hx).1; have := HPN.out; omega⟩
    have HBk' := hide HBk
    clear HBk hrel
    go_wp2
    go_ret2
    exact ⟨_, _, rfl, HBk'.out, fun _ => HR.out⟩
end Go.Proofs.YtbpkclopcoaikaaGreatDoor
