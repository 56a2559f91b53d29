/- The walks of the reference's compare, sign, weight, bare, cyclic, TextAt. The walks of the reference's pairs, within, TextAt, cyclic. The walks of the reference's Parse of features and Value. The walks of the reference's Attributes, tokens and Weight: they return. The walk of the reference's Weight: it returns. -/
import Derived.Test.YtbpkclopcoaikaaGreatDoorUPm
namespace Go.Proofs.YtbpkclopcoaikaaGreatDoor
open Go.RowKit
set_option linter.unusedVariables false
set_option linter.unusedSimpArgs false
theorem cmp_any (S T : ByteArray) (w : World) : Calls Tryz.prog 108 #[.string S, .string T] w fun e w' => (∃ x : Int, e = .returned (.int .i64 x)) ∧ w = w' := by
  go_enter Tryz.func108, Tryz.ntmps108
  go_wp2 <;> (go_ret; exact ⟨⟨_, rfl⟩, rfl⟩)
theorem sign_any (b : Bool) (w : World) : Calls Tryz.prog 107 #[.bool b] w fun e w' => (∃ x : Int, e = .returned (.int .i64 x)) ∧ w = w' := by
  go_enter Tryz.func107, Tryz.ntmps107
  cases b
  · go_wp2
    go_ret
    exact ⟨⟨_, rfl⟩, rfl⟩
  · go_wp2
    go_ret
    exact ⟨⟨_, rfl⟩, rfl⟩
set_option maxHeartbeats 2000000 in
set_option maxRecDepth 100000 in
theorem weight_any (a : Option Addr) (n cp : Nat) (l : List Pr) (w : World) (h : IsP w a n l) (hn : n ≤ big) : Calls Tryz.prog 36 #[.slice a n cp] w (IntP w) := by
  have HP := hide h
  clear h
  simp only [big] at hn
  go_enter Tryz.func36, Tryz.ntmps36
  go_wp2_with fail
  go_loopw [3, 10] (fun av kv wr => ∃ (x : Int) (k : Nat), av = .int .i64 x ∧ kv = .int .i64 (k : Int) ∧ k ≤ n ∧ Hid (Below w.heap.size w wr)) (fun _ kv _ => n - (intOf kv).toNat)
  case atStart => exact ⟨_, 0, rfl, rfl, Nat.zero_le _, hide (bl_refl w)⟩
  case round =>
    obtain ⟨x, k, rfl, rfl, hk, HB⟩ := hrel
    by_cases hkn : k < n
    · have hki : (k : Int) < (n : Int) := by omega
      obtain ⟨b, o, ⟨pn, pv⟩, rfl, hbl, hx, e0, e1⟩ := (HP.out.below HB.out).at_ hkn
      simp only at e0 e1
      have HB2 := hide (bl_alloc HB.out (.cells #[.string (bstr pn), .string (bstr pv)] 108 (0, 0)))
      clear hx
      go_wp2
      go_roundw
      case rel => exact ⟨_, k + 1, rfl, by go_num, by omega, HB2⟩
      case measure => simp [intOf]; omega
    · obtain rfl : k = n := by omega
      clear hkn
      go_wp2
      go_ret
      exact ⟨_, rfl, HB.out⟩
set_option maxHeartbeats 2000000 in
set_option maxRecDepth 100000 in
theorem bare_any (a b : Option Addr) (n cp m cq : Nat) (l : List Int) (q : List (List UInt8)) (w : World) (h : IsI w a n l) (hq : IsS w b m q) (hn : n ≤ big) (hnm : n = m) : Calls Tryz.prog 87 #[.slice a n cp, .slice b m cq] w (BoolP w) := by
  subst hnm
  have HP := hide h
  have HQ := hide hq
  clear h hq
  simp only [big] at hn
  go_enter Tryz.func87, Tryz.ntmps87
  go_wp2_with fail
  go_loopw [8] (fun kv wr => ∃ (k : Nat), kv = .int .i64 (k : Int) ∧ k ≤ n ∧ Hid (wr = w)) (fun kv _ => n - (intOf kv).toNat)
  case atStart => exact ⟨0, rfl, Nat.zero_le _, hide rfl⟩
  case round =>
    obtain ⟨k, rfl, hk, HE⟩ := hrel
    obtain rfl := HE.out
    by_cases hkn : k < n
    · have hki : (k : Int) < (n : Int) := by omega
      obtain ⟨b1, o1, x, rfl, hbl, hx, e0⟩ := HP.out.at_ hkn
      obtain ⟨b2, o2, s, rfl, hb2, hs, e1⟩ := HQ.out.at_ hkn
      clear hx hs
      by_cases hx : x = -1
      · subst hx
        go_wp2
        · go_ret
          exact ⟨_, rfl, bl_refl _⟩
        · go_roundw
          case rel => exact ⟨k + 1, by go_num, by omega, hide trivial⟩
          case measure => simp [intOf]; omega
      · have hx' : (x != -1) = true := by rw [bne_iff_ne]; exact hx
        go_wp2
        go_ret
        exact ⟨_, rfl, bl_refl _⟩
    · obtain rfl : k = n := by omega
      clear hkn
      go_wp2
      go_ret
      exact ⟨_, rfl, bl_refl _⟩
end Go.Proofs.YtbpkclopcoaikaaGreatDoor
namespace Go.Proofs.YtbpkclopcoaikaaGreatDoor
open Go.RowKit
set_option linter.unusedVariables false
set_option linter.unusedSimpArgs false
set_option maxHeartbeats 4000000 in
set_option maxRecDepth 100000 in
theorem pairs_any (a : Option Addr) (n cp : Nat) (l : List Pr) (w : World) (h : IsP w a n l) (hn : n ≤ big) : Calls Tryz.prog 84 #[.slice a n cp] w (IntP w) := by
  have HP := hide h
  clear h
  simp only [big] at hn
  go_enter Tryz.func84, Tryz.ntmps84
  by_cases h8 : 8 < n
  · have h8' : (8 : Int) < (n : Int) := by omega
    go_wp2
    go_ret
    exact ⟨_, rfl, bl_refl _⟩
  have h8' : ¬ (8 : Int) < (n : Int) := by omega
  go_wp2_with fail
  go_loopw [11] (fun kv wr => ∃ (k : Nat), kv = .int .i64 (k : Int) ∧ k ≤ n ∧ Hid (Below w.heap.size w wr)) (fun kv _ => n - (intOf kv).toNat)
  case atStart => exact ⟨0, rfl, Nat.zero_le _, hide (bl_refl w)⟩
  case round =>
    obtain ⟨k, rfl, hk, HB⟩ := hrel
    by_cases hkn : k < n
    · have hki : (k : Int) < (n : Int) := by omega
      obtain ⟨b, o, ⟨pn, pv⟩, rfl, hbl, hx, e0, e1⟩ := (HP.out.below HB.out).at_ hkn
      simp only at e0 e1
      have HB2 := hide (bl_alloc HB.out (.cells #[.string (bstr pn), .string (bstr pv)] 108 (0, 0)))
      have HP2 := hide (HP.out.below HB2.out)
      have HN := hide (cell_of_row _ _ 0 _ _ _ (heap_alloc_new wr (.cells #[.string (bstr pn), .string (bstr pv)] 108 (0, 0))))
      have HM := hide (cell_of_row _ _ 1 _ _ _ (heap_alloc_new wr (.cells #[.string (bstr pn), .string (bstr pv)] 108 (0, 0))))
      clear hx
      have HV : Hid (∀ wx, Calls Tryz.prog 106 #[.string (bstr pv)] wx (IntP wx)) := hide (fun wx => rvalue_any _ wx)
      rcases hnb : nameB pn with _ | _
      · have HF : Hid (∀ wx, Calls Tryz.prog 82 #[.string (bstr pn)] wx fun e w' => e = .returned (.bool false) ∧ wx = w') := hide (fun wx => hnb ▸ rname_any pn wx)
        clear hnb
        go_wp2_with fail
        refine (HF.out _).mono ?_
        rintro e w' ⟨rfl, rfl⟩
        go_wp2
        go_ret
        exact ⟨_, rfl, HB2.out⟩
      · have HF : Hid (∀ wx, Calls Tryz.prog 82 #[.string (bstr pn)] wx fun e w' => e = .returned (.bool true) ∧ wx = w') := hide (fun wx => hnb ▸ rname_any pn wx)
        clear hnb
        go_wp2_with fail
        refine (HF.out _).mono ?_
        rintro e w' ⟨rfl, rfl⟩
        go_wp2_with fail
        refine wp_region_K 11 (by kernel_rfl) (by kernel_rfl) (fun Q HQ => ?_)
        simp only [List.take_succ_cons, List.take_zero, List.map_cons, List.map_nil]
        cases k with
        | zero =>
          repeat
            first
            | (refine wpS_skip (b := true) rfl (guard_mk rfl rfl) ?_)
            | (refine wpS_skip (b := false) rfl (guard_mk rfl rfl) ?_)
            | (refine wpS_skipU rfl (guardU_mk rfl rfl) ?_)
            | (first | apply wpS_c rfl | apply wpS_gc rfl (guard_mk rfl rfl)
               focus
                 intro ev wx hC hx
                 (try simp [Op.operands, Call.operands, opndS, Slot.holds] at hx)
                 go_simp
                 try (first | exact rfl | exact ⟨Below.refl _ _, rfl⟩)
                 done)
            dsimp only [setS, List.set]
          refine wpS_nil (HQ _ fun w6 hC6 => ?_)
          simp only [closeS, List.drop_succ_cons, List.drop_zero, List.drop_nil]
          have HB6 := hide (HB2.out.trans (hC6.below.mono HB2.out.size))
          have hc1 := hC6.cell HM.out
          clear HQ hC6
          go_wp2_with fail
          refine (HV.out _).mono ?_
          rintro e w7 ⟨x, rfl, hb7⟩
          have HB7 := hide (HB6.out.trans (hb7.mono HB6.out.size))
          clear hb7
          by_cases hx0 : x = 0
          · subst hx0
            go_wp2
            go_roundw
            case rel => exact ⟨0 + 1, by go_num, by omega, HB7⟩
            case measure => simp [intOf]; omega
          · have hx0' : (x != 0) = true := by rw [bne_iff_ne]; exact hx0
            go_wp2
            go_ret
            exact ⟨_, rfl, HB7.out⟩
        | succ m =>
          obtain ⟨b', o', ⟨qn, qv⟩, hb', hbl', hx', f0, f1⟩ := HP2.out.at_ (show m < n by omega)
          injection hb' with hb'
          injection hb' with q1 q2
          subst q1 q2
          simp only at f0 f1
          have HF0 := hide f0
          clear f0 f1 hx' hbl'
          have hm1 : ((m + 1 : Nat) : Int) - 1 = (m : Int) := by omega
          have hw : IntKind.i64.wrap (m : Int) = (m : Int) := wrap_ok (by omega) (by omega)
          have hmn : (m : Int) < (n : Int) := by omega
          have hm0 : (0 : Int) < ((m + 1 : Nat) : Int) := by omega
          repeat
            first | apply wpS_c rfl | apply wpS_gc rfl (guard_mk rfl rfl)
            focus
              intro ev wx hC hx
              (try simp [Op.operands, Call.operands, opndS, Slot.holds] at hx)
              have k0 := hC.cell HF0.out
              have k1 := hC.cell HN.out
              go_simp
              try (first | exact rfl | exact ⟨Below.refl _ _, rfl⟩)
              done
            dsimp only [setS, List.set]
          refine wpS_nil (HQ _ fun w6 hC6 => ?_)
          simp only [closeS, List.drop_succ_cons, List.drop_zero, List.drop_nil]
          have HB6 := hide (HB2.out.trans (hC6.below.mono HB2.out.size))
          have hc1 := hC6.cell HM.out
          clear HQ hC6
          go_wp2_with fail
          · go_ret
            exact ⟨_, rfl, HB6.out⟩
          · skip
            refine (HV.out _).mono ?_
            rintro e w7 ⟨x, rfl, hb7⟩
            have HB7 := hide (HB6.out.trans (hb7.mono HB6.out.size))
            clear hb7
            by_cases hx0 : x = 0
            · subst hx0
              go_wp2
              go_roundw
              case rel => exact ⟨(m + 1) + 1, by go_num, by omega, HB7⟩
              case measure => simp [intOf]; omega
            · have hx0' : (x != 0) = true := by rw [bne_iff_ne]; exact hx0
              go_wp2
              go_ret
              exact ⟨_, rfl, HB7.out⟩
    · obtain rfl : k = n := by omega
      clear hkn
      go_wp2
      go_ret
      exact ⟨_, rfl, HB.out⟩
set_option maxHeartbeats 4000000 in
set_option maxRecDepth 100000 in
theorem within_any (c : Cv) (l : List Tx) (b0 e0 : Int) (w : World) (h : IsX w c.X.a c.X.n l) (hn : c.X.n ≤ big) : Calls Tryz.prog 85 #[c.v, .int .i64 b0, .int .i64 e0] w fun e w' => ∃ b : Bool, e = .returned (.bool b) ∧ Below w.heap.size w w' ∧ (b = true → b0 < e0 ∧ ∃ t ∈ l, t.b ≤ b0 ∧ e0 ≤ t.e) := by
  have HI := hide h
  clear h
  obtain ⟨cA, cT, ⟨aX, nX, cX⟩, cR, cN, cH, cL⟩ := c
  simp only [big] at HI hn ⊢
  have HB := hide (bl_alloc (bl_refl w) (Cv.mk cA cT ⟨aX, nX, cX⟩ cR cN cH cL).o)
  go_enter Tryz.func85, Tryz.ntmps85
  go_wp2_with fail
  go_loopw [12] (fun kv wr => ∃ (k : Nat), kv = .int .i64 (k : Int) ∧ k ≤ nX ∧ Hid (Below w.heap.size w wr)) (fun kv _ => nX - (intOf kv).toNat)
  case atStart => exact ⟨0, rfl, Nat.zero_le _, HB⟩
  case round =>
    obtain ⟨k, rfl, hk, HBk⟩ := hrel
    by_cases hkn : k < nX
    · have hki : (k : Int) < (nX : Int) := by omega
      obtain ⟨b, o, ⟨xl, xb, xe, xs, xp⟩, rfl, hbl, hx, -, e0', e1, e2, e3⟩ := (HI.out.below HBk.out).at_ hkn
      simp only at e0' e1 e2 e3
      have HX := hide hx
      have HB2 := hide (bl_alloc HBk.out (.cells #[.string (bstr xl), .int .i64 xb, .int .i64 xe, .slice xs.a xs.n xs.c] 88 (0, 0)))
      clear hx
      by_cases h1 : xb ≤ b0
      · by_cases h2 : b0 < e0
        · by_cases h3 : e0 ≤ xe
          · have HR : Hid (b0 < e0 ∧ ∃ t ∈ l, t.b ≤ b0 ∧ e0 ≤ t.e) := hide ⟨h2, _, List.mem_of_getElem? HX.out, h1, h3⟩
            go_wp2
            go_ret
            exact ⟨_, rfl, HB2.out, fun _ => HR.out⟩
          · go_wp2
            go_roundw
            case rel => exact ⟨k + 1, by go_num, by omega, HB2⟩
            case measure => simp [intOf]; omega
        · go_wp2
          go_roundw
          case rel => exact ⟨k + 1, by go_num, by omega, HB2⟩
          case measure => simp [intOf]; omega
      · go_wp2
        go_roundw
        case rel => exact ⟨k + 1, by go_num, by omega, HB2⟩
        case measure => simp [intOf]; omega
    · obtain rfl : k = nX := by omega
      clear hkn
      go_wp2
      go_ret
      exact ⟨_, rfl, HBk.out, fun h => by cases h⟩
set_option maxHeartbeats 4000000 in
set_option maxRecDepth 100000 in
theorem textAt_any (c : Cv) (l : List Tx) (p : Int) (w : World) (h : IsX w c.X.a c.X.n l) (hn : c.X.n ≤ big) : Calls Tryz.prog 88 #[c.v, .int .i64 p] w (IntP w) := by
  have HI := hide h
  clear h
  obtain ⟨cA, cT, ⟨aX, nX, cX⟩, cR, cN, cH, cL⟩ := c
  simp only [big] at HI hn ⊢
  have HB := hide (bl_alloc (bl_refl w) (Cv.mk cA cT ⟨aX, nX, cX⟩ cR cN cH cL).o)
  go_enter Tryz.func88, Tryz.ntmps88
  go_wp2_with fail
  go_loopw [10] (fun kv wr => ∃ (k : Nat), kv = .int .i64 (k : Int) ∧ k ≤ nX ∧ Hid (Below w.heap.size w wr)) (fun kv _ => nX - (intOf kv).toNat)
  case atStart => exact ⟨0, rfl, Nat.zero_le _, HB⟩
  case round =>
    obtain ⟨k, rfl, hk, HBk⟩ := hrel
    by_cases hkn : k < nX
    · have hki : (k : Int) < (nX : Int) := by omega
      obtain ⟨b, o, ⟨xl, xb, xe, xs, xp⟩, rfl, hbl, hx, -, e0', e1, e2, e3⟩ := (HI.out.below HBk.out).at_ hkn
      simp only at e0' e1 e2 e3
      have HB2 := hide (bl_alloc HBk.out (.cells #[.string (bstr xl), .int .i64 xb, .int .i64 xe, .slice xs.a xs.n xs.c] 88 (0, 0)))
      clear hx
      by_cases h1 : xb ≤ p
      · by_cases h2 : p < xe
        · go_wp2
          go_ret
          exact ⟨_, rfl, HB2.out⟩
        · go_wp2
          go_roundw
          case rel => exact ⟨k + 1, by go_num, by omega, HB2⟩
          case measure => simp [intOf]; omega
      · go_wp2
        go_roundw
        case rel => exact ⟨k + 1, by go_num, by omega, HB2⟩
        case measure => simp [intOf]; omega
    · obtain rfl : k = nX := by omega
      clear hkn
      go_wp2
      go_ret
      exact ⟨_, rfl, HBk.out⟩
/-- The way upwards from x comes to i within f steps, all of them in range. -/
def cycF (p : List Int) (i : Int) : Nat → Int → Bool
  | 0, _ => false
  | f + 1, x => match p[x.toNat]? with
    | none => false
    | some y => if y < 0 ∨ (p.length : Int) ≤ y then false else if y = i then true else cycF p i f y
theorem cycF_out {p : List Int} {i : Int} {f q : Nat} {y : Int} (h : p[q]? = some y) (hy : y < 0 ∨ (p.length : Int) ≤ y) : cycF p i (f + 1) (q : Int) = false := by
  show (match p[(q : Int).toNat]? with | none => false | some y => if y < 0 ∨ (p.length : Int) ≤ y then false else if y = i then true else cycF p i f y) = false
  rw [Int.toNat_natCast, h]
  exact if_pos hy
theorem cycF_hit {p : List Int} {i : Int} {f q : Nat} {y : Int} (h : p[q]? = some y) (hy : ¬ (y < 0 ∨ (p.length : Int) ≤ y)) (hi : y = i) : cycF p i (f + 1) (q : Int) = true := by
  show (match p[(q : Int).toNat]? with | none => false | some y => if y < 0 ∨ (p.length : Int) ≤ y then false else if y = i then true else cycF p i f y) = true
  rw [Int.toNat_natCast, h]
  exact (if_neg hy).trans (if_pos hi)
theorem cycF_on {p : List Int} {i : Int} {f q : Nat} {y : Int} (h : p[q]? = some y) (hy : ¬ (y < 0 ∨ (p.length : Int) ≤ y)) (hi : ¬ y = i) : cycF p i (f + 1) (q : Int) = cycF p i f y := by
  show (match p[(q : Int).toNat]? with | none => false | some y => if y < 0 ∨ (p.length : Int) ≤ y then false else if y = i then true else cycF p i f y) = cycF p i f y
  rw [Int.toNat_natCast, h]
  exact (if_neg hy).trans (if_neg hi)
set_option maxHeartbeats 4000000 in
set_option maxRecDepth 100000 in
theorem cyclic_any (a : Option Addr) (n cp i : Nat) (p : List Int) (w : World) (h : IsI w a n p) (hn : n ≤ big) (hi : i < n) : Calls Tryz.prog 89 #[.slice a n cp, .int .i64 (i : Int)] w fun e w' => e = .returned (.bool (cycF p i n i)) ∧ w = w' := by
  have HI := hide h
  have HLN := hide h.1
  clear h
  simp only [big] at hn
  go_enter Tryz.func89, Tryz.ntmps89
  go_wp2_with fail
  go_loopw [5, 9] (fun xv kv wr => ∃ (x k : Nat), xv = .int .i64 (x : Int) ∧ kv = .int .i64 (k : Int) ∧ k ≤ n ∧ x < n ∧ Hid (cycF p i (n - k) x = cycF p i n i) ∧ Hid (w = wr)) (fun _ kv _ => n - (intOf kv).toNat)
  case atStart => exact ⟨i, 0, rfl, rfl, Nat.zero_le _, hi, hide rfl, hide rfl⟩
  case round =>
    obtain ⟨x, k, rfl, rfl, hk, hx, HE, HW⟩ := hrel
    obtain rfl := HW.out
    by_cases hkn : k < n
    · have hki : (k : Int) < (n : Int) := by omega
      have hxi : (x : Int) < (n : Int) := by omega
      obtain ⟨b, o, y, rfl, hbl, hy, e0⟩ := HI.out.at_ hx
      have HY := hide hy
      clear hy
      by_cases h1 : y < 0
      · have HR : Hid (cycF p i n i = false) := hide (HE.out.symm.trans (by rw [show n - k = (n - k - 1) + 1 by omega]; exact cycF_out (f := n - k - 1) HY.out (.inl h1)))
        go_wp2
        go_ret
        exact ⟨by rw [HR.out]; rfl, rfl⟩
      · by_cases h2 : (n : Int) ≤ y
        · have HR : Hid (cycF p i n i = false) := hide (HE.out.symm.trans (by rw [show n - k = (n - k - 1) + 1 by omega]; exact cycF_out (f := n - k - 1) HY.out (.inr (by rw [← HLN.out]; exact h2))))
          go_wp2
          go_ret
          exact ⟨by rw [HR.out]; rfl, rfl⟩
        · obtain ⟨q, rfl⟩ := Int.eq_ofNat_of_zero_le (show 0 ≤ y by omega)
          have hqn : q < n := by omega
          by_cases h3 : q = i
          · have HR : Hid (cycF p i n i = true) := hide (HE.out.symm.trans (by rw [show n - k = (n - k - 1) + 1 by omega]; exact cycF_hit (f := n - k - 1) HY.out (by rw [← HLN.out]; omega) (by rw [h3])))
            subst h3
            go_wp2
            go_ret
            exact ⟨by rw [HR.out]; rfl, rfl⟩
          · have HR : Hid (cycF p i (n - k - 1) q = cycF p i n i) := hide (by
              have := cycF_on (i := (i : Int)) (f := n - k - 1) HY.out (by rw [← HLN.out]; omega) (by omega)
              rw [← this, show n - k - 1 + 1 = n - k by omega]
              exact HE.out)
            have h3' : ((q : Int) == (i : Int)) = false := by rw [beq_eq_false_iff_ne]; omega
            go_wp2
            go_roundw
            case rel => exact ⟨q, k + 1, rfl, by go_num, by omega, hqn, by rw [show n - (k + 1) = n - k - 1 by omega]; exact HR, hide trivial⟩
            case measure => simp [intOf]; omega
    · obtain rfl : k = n := by omega
      have HR : Hid (cycF p i k i = false) := hide (HE.out.symm.trans (by rw [Nat.sub_self]; rfl))
      clear hkn
      go_wp2
      go_ret
      exact ⟨by rw [HR.out]; rfl, rfl⟩
end Go.Proofs.YtbpkclopcoaikaaGreatDoor
namespace Go.Proofs.YtbpkclopcoaikaaGreatDoor
open Go.RowKit
set_option linter.unusedVariables false
set_option linter.unusedSimpArgs false
theorem info_str : (Tryz.prog.info? 9).map (fun i => (i.zero, i.size, i.bytes)) = some (some (.string ByteArray.empty), 1, 16) := by kernel_rfl
def ParseP (w : World) (e : Ending) (w' : World) : Prop := ∃ (v : Value) (x : Int), e = .returned (.tuple #[v, .int .i64 x]) ∧ Below w.heap.size w w'
set_option maxHeartbeats 4000000 in
set_option maxRecDepth 100000 in
theorem fparse_any (S : ByteArray) (w : World) : Calls Tryz.prog 105 #[.string S] w (ParseP w) := by
  obtain ⟨i2, hi2, hz0, hz1, hz2⟩ := info_parts info_str
  go_enter Tryz.func105, Tryz.ntmps105
  go_wp2_with fail
  refine (rvalue_sz S w).mono ?_
  rintro e w1 ⟨x, rfl, hb, hsz⟩
  have HB := hide hb
  clear hb
  by_cases hx : x = 0
  · subst hx
    have hs : S.size ≤ 120 := hsz rfl
    clear hsz
    rcases Nat.eq_zero_or_pos S.size with h0 | hpos
    · obtain rfl : S = ByteArray.empty := by
        obtain ⟨l, hl⟩ := str_ex S
        have := str_size hl
        rw [h0] at this
        rw [hl, List.eq_nil_of_length_eq_zero this.symm]
        rfl
      go_wp2
      go_ret2
      exact ⟨_, _, rfl, HB.out⟩
    have hz : ((S.size : Int) == 0) = false := by rw [beq_eq_false_iff_ne]; omega
    have hzz : (1 : Int) ≤ (S.size : Int) := by omega
    by_cases c0 : (S[0].toNat : Int) = 124
    case neg =>
      have c0' : ((S[0].toNat : Int) != 124) = true := by rw [bne_iff_ne]; exact c0
      go_wp2
      go_ret2
      exact ⟨_, _, rfl, HB.out⟩
    by_cases c1 : (S[S.size - 1].toNat : Int) = 124
    case neg =>
      have c1' : ((S[S.size - 1].toNat : Int) != 124) = true := by rw [bne_iff_ne]; exact c1
      go_wp2
      go_ret2
      exact ⟨_, _, rfl, HB.out⟩
    go_wp2_with fail
    have HS0 : Hid (w1.ownsRow w1.heap.size 9 1 (.slice none 0 0) ([] : List ByteArray).length (([] : List ByteArray).map Value.string)) := hide (World.ownsRow_nil _ _ _ _)
    go_loopw [6, 7, 8] (fun lv fv iv wr => ∃ (fr i : Nat) (xs : List ByteArray), fv = .int .i64 (fr : Int) ∧ iv = .int .i64 (i : Int) ∧ fr ≤ i ∧ i ≤ S.size ∧ 1 ≤ fr ∧ xs.length < i ∧ Hid (wr.ownsRow w1.heap.size 9 1 lv xs.length (xs.map Value.string)) ∧ Hid (Below w1.heap.size w1 wr)) (fun _ _ iv _ => S.size - (intOf iv).toNat)
    case atStart => exact ⟨1, 1, [], rfl, rfl, Nat.le_refl _, hpos, Nat.le_refl _, by simp, HS0, hide (bl_refl w1)⟩
    case round =>
      obtain ⟨fr, i, xs, rfl, rfl, hfi, hin, hf1, hxl, HO, HBk⟩ := hrel
      by_cases hkn : i < S.size
      · have hki : (i : Int) < (S.size : Int) := by omega
        by_cases h124 : (S[i].toNat : Int) = 124
        · by_cases hif : i = fr
          · subst hif
            go_wp2
            go_ret2
            exact ⟨_, _, rfl, (HB.out.trans (HBk.out.mono HB.out.size))⟩
          · have hif' : ((i : Int) == (fr : Int)) = false := by rw [beq_eq_false_iff_ne]; omega
            have hfi' : (fr : Int) ≤ (i : Int) := by omega
            obtain ⟨T, hT⟩ : ∃ T, T = S.extract fr i := ⟨_, rfl⟩
            have HOA := hide (ownG_below HO.out (bl_alloc (bl_refl wr) (.cells #[.string T] 9 (0, 0))))
            have HRL := hide (rd_lit wr #[.string T] 9 (0, 0))
            have HSA := hide (show w1.heap.size ≤ (wr.alloc (.cells #[.string T] 9 (0, 0))).heap.size by have := HBk.out.size; simp; omega)
            have HBA := hide (bl_alloc HBk.out (.cells #[.string T] 9 (0, 0)))
            have HLN := hide (show xs.length ≤ 1000 by omega)
            rw [hT] at HOA HRL HSA HBA
            clear hT
            go_wp2_with (at_builtin; go_loud (refine wpList_append_rd _ rfl (.tmp 43) (.tmp 48) 28 rfl w1.heap.size 9 i2 _ 1 16 Tryz.underlying28 hi2 hz0 hz1 hz2 rfl (by decide) u6 xs.length _ rfl HOA.out (some ⟨wr.heap.size, 0, none⟩) 1 1 [.string (S.extract fr i)] rfl rfl HRL.out (by intro u hu; simp at hu; subst hu; rfl) (by simp only [maxLen]; have := HLN.out; omega) (by have := HLN.out; omega) HSA.out ?_); intro v' w' ho' hg' hor'; have HO' := hide ho'; have HB' := hide (bl_grown HBA.out hg' (fun q hq => (ownG_lt HOA.out hq).1)); clear ho' hg' hor')
            go_roundw
            case rel =>
              refine ⟨i + 1, i + 1, xs ++ [S.extract fr i], by go_num, by go_num, Nat.le_refl _, by omega, by omega, by simp; omega, ?_, HB'⟩
              have := HO'.out
              rw [List.map_append, List.length_append]
              exact hide this
            case measure => simp [intOf]; omega
        · have hm' : ((S[i].toNat : Int) != 124) = true := by rw [bne_iff_ne]; omega
          go_wp2
          go_roundw
          case rel => exact ⟨fr, i + 1, xs, rfl, by go_num, by omega, by omega, by omega, by omega, HO, HBk⟩
          case measure => simp [intOf]; omega
      · obtain rfl : i = S.size := by omega
        obtain ⟨a6, c6, hv, hnc, _⟩ := ownG_form HO.out
        subst hv
        have HBB := hide (HB.out.trans (HBk.out.mono HB.out.size))
        have HR : Hid (Rd wr a6 (xs.map Value.string)) := hide (by
          obtain ⟨a, c, hv, _, hr⟩ := ownG_form HO.out
          cases hv
          exact hr)
        obtain ⟨n, hn⟩ : ∃ n, n = xs.length := ⟨_, rfl⟩
        have hn1 : n ≤ 200 := by omega
        have HN := hide hn
        rw [← hn]
        clear hkn hxl hin hfi hn
        go_wp2_with fail
        generalize wr = w2 at *
        go_loopw [9] (fun iv wy => ∃ (j : Nat), iv = .int .i64 ((j : Int) + 1) ∧ j ≤ n ∧ Hid (Below w2.heap.size w2 wy)) (fun iv _ => n + 1 - (intOf iv).toNat)
        case atStart => exact ⟨0, rfl, Nat.zero_le _, hide (bl_refl w2)⟩
        case round =>
          obtain ⟨j, rfl, hjn0, HE⟩ := hrel
          have HBC := hide (HBB.out.trans (HE.out.mono HBB.out.size))
          by_cases hjn : j + 1 < n
          · have hji : (j : Int) + 1 < (n : Int) := by omega
            have hjj : (j : Int) < (n : Int) := by omega
            obtain ⟨T, hT⟩ : ∃ T, xs[j]? = some T := ⟨_, List.getElem?_eq_getElem (by rw [← HN.out]; omega)⟩
            obtain ⟨T2, hT2⟩ : ∃ T, xs[j + 1]? = some T := ⟨_, List.getElem?_eq_getElem (by rw [← HN.out]; omega)⟩
            have HR2 := hide (HR.out.below HE.out)
            obtain ⟨b, o, rfl, hbl, f0⟩ := HR2.out.at_ (k := j) (v := .string T) (by rw [List.getElem?_map, hT]; rfl)
            obtain ⟨b', o', hb', _, f1⟩ := HR2.out.at_ (k := j + 1) (v := .string T2) (by rw [List.getElem?_map, hT2]; rfl)
            injection hb' with hb'
            injection hb' with q1 q2
            subst q1 q2
            have HF0 := hide f0
            have HF1 := hide f1
            clear f0 f1 hT hT2
            go_wp2_with fail
            refine wp_region_K 9 (by kernel_rfl) (by kernel_rfl) (fun Q HQ => ?_)
            simp only [List.take_succ_cons, List.take_zero, List.map_cons, List.map_nil]
            have hw : IntKind.i64.wrap (j : Int) = (j : Int) := wrap_ok (by omega) (by omega)
            repeat
              first | apply wpS_c rfl | apply wpS_gc rfl (guard_mk rfl rfl)
              focus
                intro ev wx hC hx
                (try simp [Op.operands, Call.operands, opndS, Slot.holds] at hx)
                have k0 := hC.cell HF0.out
                have k1 := hC.cell HF1.out
                go_simp
                try (first | exact rfl | exact ⟨Below.refl _ _, rfl⟩)
                done
              dsimp only [setS, List.set]
            refine wpS_nil (HQ _ fun w6 hC6 => ?_)
            simp only [closeS, List.drop_succ_cons, List.drop_zero, List.drop_nil]
            have HB6 := hide (HBC.out.trans (hC6.below.mono HBC.out.size))
            have HE6 := hide (HE.out.trans (hC6.below.mono HE.out.size))
            clear HQ hC6
            go_wp2
            · go_ret2
              exact ⟨_, _, rfl, HB6.out⟩
            · go_roundw
              case rel => exact ⟨j + 1, by go_num, by omega, HE6⟩
              case measure => simp [intOf]; omega
          · have hji : ¬ (j : Int) + 1 < (n : Int) := by omega
            go_wp2
            go_ret2
            exact ⟨_, _, rfl, HBC.out⟩
  · have hx' : (x != 0) = true := by rw [bne_iff_ne]; exact hx
    clear hsz
    go_wp2
    go_ret2
    exact ⟨_, _, rfl, HB.out⟩
theorem rval_any (nm : ByteArray) (st : Bool) (S : ByteArray) (w : World) : Calls Tryz.prog 83 #[.agg #[.string nm, .bool st], .string S] w (IntP w) := by
  go_enter Tryz.func83, Tryz.ntmps83
  have HB := hide (bl_alloc (bl_refl w) (.cells #[.string nm, .bool st] 71 (0, 0)))
  cases st
  · go_wp2_with fail
    refine (rvalue_any S _).mono ?_
    rintro e w2 ⟨x, rfl, hb⟩
    have HB2 := hide (HB.out.trans (hb.mono HB.out.size))
    clear hb
    go_wp2
    go_ret
    exact ⟨_, rfl, HB2.out⟩
  · go_wp2_with fail
    refine (fparse_any S _).mono ?_
    rintro e w2 ⟨v, x, rfl, hb⟩
    have HB2 := hide (HB.out.trans (hb.mono HB.out.size))
    clear hb
    go_wp2
    go_ret
    exact ⟨_, rfl, HB2.out⟩
end Go.Proofs.YtbpkclopcoaikaaGreatDoor
namespace Go.Proofs.YtbpkclopcoaikaaGreatDoor
open Go.RowKit
set_option linter.unusedVariables false
set_option linter.unusedSimpArgs false
def Int2P (w : World) (e : Ending) (w' : World) : Prop := ∃ x y : Int, e = .returned (.tuple #[.int .i64 x, .int .i64 y]) ∧ Below w.heap.size w w'
/-- Some int. -/
def IntV : Value → World → Prop := fun v _ => ∃ x : Int, v = .int .i64 x
theorem stab_int : Stab (.p IntV) := fun u w w' _ h => h
set_option maxHeartbeats 4000000 in
set_option maxRecDepth 100000 in
theorem attrs_any (a : Option Addr) (n cp : Nat) (l : List Ab) (w : World) (h : IsA w a n l) (hc : n ≤ cp) (hn : cp ≤ big) : Calls Tryz.prog 55 #[.slice a n cp] w (Int2P w) := by
  have HP := hide h
  clear h
  simp only [big] at hn
  go_enter Tryz.func55, Tryz.ntmps55
  by_cases h0 : n = 0
  · subst h0
    go_wp2
    go_ret2
    exact ⟨_, _, rfl, bl_refl _⟩
  have h0' : ((n : Int) == 0) = false := by rw [beq_eq_false_iff_ne]; omega
  by_cases h8 : 8 < n
  · have h8' : (8 : Int) < (n : Int) := by omega
    go_wp2
    go_ret2
    exact ⟨_, _, rfl, bl_refl _⟩
  have h8' : ¬ (8 : Int) < (n : Int) := by omega
  go_wp2_with fail
  go_loopw [16] (fun kv wr => ∃ (k : Nat), kv = .int .i64 (k : Int) ∧ k ≤ n ∧ Hid (Below w.heap.size w wr)) (fun kv _ => n - (intOf kv).toNat)
  case atStart => exact ⟨0, rfl, Nat.zero_le _, hide (bl_refl w)⟩
  case round =>
    obtain ⟨k, rfl, hk, HB⟩ := hrel
    by_cases hkn : k < n
    · have hki : (k : Int) < (n : Int) := by omega
      have hkc : (k : Int) ≤ (cp : Int) := by omega
      obtain ⟨b, o, ⟨pn, pv⟩, rfl, hbl, hx, e0, e1⟩ := (HP.out.below HB.out).at_ hkn
      simp only at e0 e1
      have HB2 := hide (bl_alloc HB.out (.cells #[.string (bstr pn), .bool pv] 71 (0, 0)))
      have HN : Hid ((wr.alloc (.cells #[.string (bstr pn), .bool pv] 71 (0, 0))).cell? ⟨wr.heap.size, 0, none⟩ = some (.string (bstr pn))) := hide (cell_of_row _ _ 0 _ _ _ (heap_alloc_new wr (.cells #[.string (bstr pn), .bool pv] 71 (0, 0))))
      clear hx
      rcases hnb : nameB pn with _ | _
      · have HF : Hid (∀ wx, Calls Tryz.prog 82 #[.string (bstr pn)] wx fun e w' => e = .returned (.bool false) ∧ wx = w') := hide (fun wx => hnb ▸ rname_any pn wx)
        clear hnb
        go_wp2_with fail
        refine (HF.out _).mono ?_
        rintro e w' ⟨rfl, rfl⟩
        go_wp2
        go_ret2
        exact ⟨_, _, rfl, HB2.out⟩
      · have HF : Hid (∀ wx, Calls Tryz.prog 82 #[.string (bstr pn)] wx fun e w' => e = .returned (.bool true) ∧ wx = w') := hide (fun wx => hnb ▸ rname_any pn wx)
        clear hnb
        go_wp2_with fail
        refine (HF.out _).mono ?_
        rintro e w' ⟨rfl, rfl⟩
        go_wp2_with fail
        obtain ⟨g, hg⟩ : ∃ g, g = wr.heap.size := ⟨_, rfl⟩
        obtain ⟨W2, hW2⟩ : ∃ W2, W2 = wr.alloc (.cells #[.string (bstr pn), .bool pv] 71 (0, 0)) := ⟨_, rfl⟩
        have hgw : g < W2.heap.size := by rw [hW2, hg]; simp
        rw [← hg] at HN ⊢
        rw [← hW2] at HB2 HN ⊢
        clear hW2 hg e0 e1 hbl HB
        generalize wr = w9 at *
        go_loopw [30] (fun kv wr => ∃ (j : Nat), kv = .int .i64 (j : Int) ∧ j ≤ k ∧ Hid (Below W2.heap.size W2 wr)) (fun kv _ => k - (intOf kv).toNat)
        case atStart => exact ⟨0, rfl, Nat.zero_le _, hide (bl_refl W2)⟩
        case round =>
          obtain ⟨j, rfl, hj, HE⟩ := hrel
          have HBC := hide (HB2.out.trans (HE.out.mono HB2.out.size))
          have k0 := (HE.out.cell (lt_heap HN.out)).trans HN.out
          have HK0 := hide k0
          by_cases hjk : j < k
          · have hji : (j : Int) < (k : Int) := by omega
            obtain ⟨b', o', ⟨qn, qv⟩, hb', hbl', hx', f0, f1⟩ := (HP.out.below HBC.out).at_ (show j < n by omega)
            injection hb' with hb'
            injection hb' with q1 q2
            subst q1 q2
            simp only at f0 f1
            have HB3 := hide (bl_alloc HBC.out (.cells #[.string (bstr qn), .bool qv] 71 (0, 0)))
            have HE3 := hide (bl_alloc HE.out (.cells #[.string (bstr qn), .bool qv] 71 (0, 0)))
            have k1 := (HE3.out.cell (lt_heap HN.out)).trans HN.out
            clear hx' hbl'
            go_wp2
            · go_ret2
              exact ⟨_, _, rfl, HB3.out⟩
            · go_roundw
              case rel => exact ⟨j + 1, by go_num, by omega, HE3⟩
              case measure => simp [intOf]; omega
          · obtain rfl : j = k := by omega
            clear hjk
            go_wp2
            go_roundw
            case rel => exact ⟨j + 1, by go_num, by omega, HBC⟩
            case measure => simp [intOf]; omega
    · obtain rfl : k = n := by omega
      clear hkn
      go_wp2
      go_ret2
      exact ⟨_, _, rfl, HB.out⟩
set_option maxHeartbeats 4000000 in
set_option maxRecDepth 100000 in
theorem rtokens_any (c : Cv) (d : Cd) (w : World) (h : IsCo w c d) (hf : CFit c) : Calls Tryz.prog 56 #[c.v] w (Int2P w) := by
  have HA := hide h.A
  have HT := hide h.T
  have hfa := hf.A
  have hft := hf.T
  clear h hf
  obtain ⟨⟨aA, nA, cA⟩, ⟨aT, nT, cT⟩, cX, cR, cN, cH, cL⟩ := c
  simp only [big] at HA HT hfa hft ⊢
  obtain ⟨W0, hW0⟩ : ∃ W0, W0 = w.alloc (Cv.mk ⟨aA, nA, cA⟩ ⟨aT, nT, cT⟩ cX cR cN cH cL).o := ⟨_, rfl⟩
  have HB := hide (bl_alloc (bl_refl w) (Cv.mk ⟨aA, nA, cA⟩ ⟨aT, nT, cT⟩ cX cR cN cH cL).o)
  have HC := hide (CCells.new w (Cv.mk ⟨aA, nA, cA⟩ ⟨aT, nT, cT⟩ cX cR cN cH cL))
  rw [← hW0] at HB HC
  have HA0 := hide (HA.out.below HB.out)
  have HT0 := hide (HT.out.below HB.out)
  go_enter Tryz.func56, Tryz.ntmps56
  by_cases h4 : 4096 < nT
  · have h4' : (4096 : Int) < (nT : Int) := by omega
    clear hW0
    go_wp2
    go_ret2
    exact ⟨_, _, rfl, bl_alloc (bl_refl _) _⟩
  have h4' : ¬ (4096 : Int) < (nT : Int) := by omega
  go_wp2_with fail
  rw [← hW0]
  clear hW0
  go_loopw [16] (fun kv wr => ∃ (k : Nat), kv = .int .i64 (k : Int) ∧ k ≤ nT ∧ Hid (Below W0.heap.size W0 wr)) (fun kv _ => nT - (intOf kv).toNat)
  case atStart => exact ⟨0, rfl, Nat.zero_le _, hide (bl_refl W0)⟩
  case round =>
    obtain ⟨k, rfl, hk, HBk⟩ := hrel
    have HBB := hide (HB.out.trans (HBk.out.mono HB.out.size))
    by_cases hkn : k < nT
    · have hki : (k : Int) < (nT : Int) := by omega
      obtain ⟨b, o, ⟨⟨as_, ns, cs⟩, vs⟩, rfl, hbl, hx, ⟨hs1, hs2, hs3⟩, e0⟩ := (HT0.out.below HBk.out).at_ hkn
      simp only [big] at e0 hs1 hs2 hs3
      have c0 := (HC.out.below HBk.out).c0
      simp only at c0
      have HS := hide hs1
      clear hx hs1
      by_cases hnn : ns = nA
      · subst hnn
        go_wp2_with fail
        generalize wr = w9 at *
        go_loopw [30] (fun kv wr => ∃ (j : Nat), kv = .int .i64 (j : Int) ∧ j ≤ ns ∧ Hid (Below w9.heap.size w9 wr)) (fun kv _ => ns - (intOf kv).toNat)
        case atStart => exact ⟨0, rfl, Nat.zero_le _, hide (bl_refl w9)⟩
        case round =>
          obtain ⟨j, rfl, hj, HE⟩ := hrel
          have HBC := hide (HBB.out.trans (HE.out.mono HBB.out.size))
          have HBD := hide (HBk.out.trans (HE.out.mono HBk.out.size))
          have c0' := (HC.out.below HBD.out).c0
          simp only at c0'
          by_cases hjn : j < ns
          · have hji : (j : Int) < (ns : Int) := by omega
            obtain ⟨b1, o1, v1, rfl, hb1, hx1, f0⟩ := (HS.out.below HE.out).at_ hjn
            obtain ⟨b2, o2, ⟨qn, qv⟩, rfl, hb2, hx2, g0, g1⟩ := (HA0.out.below HBD.out).at_ hjn
            simp only at g0 g1
            clear hx1 hx2 hb1 hb2 hbl
            go_wp2_with fail
            refine (rval_any (bstr qn) qv (bstr v1) _).mono ?_
            rintro e w7 ⟨x, rfl, hb7⟩
            have HB7 := hide (HBC.out.trans (hb7.mono HBC.out.size))
            have HE7 := hide (HE.out.trans (hb7.mono HE.out.size))
            clear hb7
            by_cases hx0 : x = 0
            · subst hx0
              go_wp2
              go_roundw
              case rel => exact ⟨j + 1, by go_num, by omega, HE7⟩
              case measure => simp [intOf]; omega
            · have hx0' : (x != 0) = true := by rw [bne_iff_ne]; exact hx0
              go_wp2
              go_ret2
              exact ⟨_, _, rfl, HB7.out⟩
          · obtain rfl : j = ns := by omega
            clear hjn
            go_wp2
            go_roundw
            case rel => exact ⟨k + 1, by go_num, by omega, HBD⟩
            case measure => simp [intOf]; omega
      · have hnn' : ((ns : Int) != (nA : Int)) = true := by rw [bne_iff_ne]; omega
        go_wp2
        go_ret2
        exact ⟨_, _, rfl, HBB.out⟩
    · obtain rfl : k = nT := by omega
      clear hkn
      go_wp2
      go_ret2
      exact ⟨_, _, rfl, HBB.out⟩
end Go.Proofs.YtbpkclopcoaikaaGreatDoor
namespace Go.Proofs.YtbpkclopcoaikaaGreatDoor
open Go.RowKit
set_option linter.unusedVariables false
set_option linter.unusedSimpArgs false
set_option maxHeartbeats 8000000 in
set_option maxRecDepth 100000 in
theorem weightC_any (c : Cv) (d : Cd) (w : World) (h : IsCo w c d) (hf : CFit c) : Calls Tryz.prog 21 #[c.v] w (IntP w) := by
  have HI := hide h
  have HF := hide hf
  clear h hf
  obtain ⟨⟨aA, nA, cA⟩, ⟨aT, nT, cT⟩, ⟨aX, nX, cX⟩, ⟨aR, nR, cR⟩, ⟨aN, nN, cN⟩, ⟨aH, nH, cH⟩, ⟨aL, nL, cL⟩⟩ := c
  have hfa := HF.out.A
  have hft := HF.out.T
  have hfx := HF.out.X
  have hfr := HF.out.R
  have hfn := HF.out.N
  have hfh := HF.out.H
  have hfl := HF.out.L
  simp only [big] at HI HF hfa hft hfx hfr hfn hfh hfl ⊢
  obtain ⟨W0, hW0⟩ : ∃ W0, W0 = w.alloc (Cv.mk ⟨aA, nA, cA⟩ ⟨aT, nT, cT⟩ ⟨aX, nX, cX⟩ ⟨aR, nR, cR⟩ ⟨aN, nN, cN⟩ ⟨aH, nH, cH⟩ ⟨aL, nL, cL⟩).o := ⟨_, rfl⟩
  have HB := hide (bl_alloc (bl_refl w) (Cv.mk ⟨aA, nA, cA⟩ ⟨aT, nT, cT⟩ ⟨aX, nX, cX⟩ ⟨aR, nR, cR⟩ ⟨aN, nN, cN⟩ ⟨aH, nH, cH⟩ ⟨aL, nL, cL⟩).o)
  have HC := hide (CCells.new w (Cv.mk ⟨aA, nA, cA⟩ ⟨aT, nT, cT⟩ ⟨aX, nX, cX⟩ ⟨aR, nR, cR⟩ ⟨aN, nN, cN⟩ ⟨aH, nH, cH⟩ ⟨aL, nL, cL⟩))
  rw [← hW0] at HB HC
  have HI0 := hide (HI.out.below HB.out)
  go_enter Tryz.func21, Tryz.ntmps21
  go_wp2_with fail
  rw [← hW0]
  clear hW0
  go_loopw [3, 28] (fun av kv wr => ∃ (x : Int) (k : Nat), av = .int .i64 x ∧ kv = .int .i64 (k : Int) ∧ k ≤ nA ∧ Hid (Below W0.heap.size W0 wr)) (fun _ kv _ => nA - (intOf kv).toNat)
  case atStart => exact ⟨_, 0, rfl, rfl, Nat.zero_le _, hide (bl_refl W0)⟩
  case round =>
    obtain ⟨x, k, rfl, rfl, hk, HBk⟩ := hrel
    by_cases hkn : k < nA
    · have hki : (k : Int) < (nA : Int) := by omega
      obtain ⟨b, o, ⟨pn, pv⟩, rfl, hbl, hx, e0, e1⟩ := (HI0.out.A.below HBk.out).at_ hkn
      simp only at e0 e1
      have HB2 := hide (bl_alloc HBk.out (.cells #[.string (bstr pn), .bool pv] 71 (0, 0)))
      clear hx
      go_wp2
      go_roundw
      case rel => exact ⟨_, k + 1, rfl, by go_num, by omega, HB2⟩
      case measure => simp [intOf]; omega
    obtain rfl : k = nA := by omega
    obtain ⟨k0, k1, k2, k3, k4, k5, k6⟩ := HC.out.below HBk.out
    simp only at k0 k1 k2 k3 k4 k5 k6
    clear hkn
    go_wp2_with fail
    clear k0 k1 k2 k3 k4 k5 k6
    generalize wr = v1 at *
    have Hv1 := HBk
    clear HBk
    go_loopw [3, 41] (fun av kv wr => ∃ (x : Int) (k : Nat), av = .int .i64 x ∧ kv = .int .i64 (k : Int) ∧ k ≤ nT ∧ Hid (Below W0.heap.size W0 wr)) (fun _ kv _ => nT - (intOf kv).toNat)
    case atStart => exact ⟨_, 0, rfl, rfl, Nat.zero_le _, Hv1⟩
    case round =>
      obtain ⟨x, k, rfl, rfl, hk, HBk⟩ := hrel
      by_cases hkn : k < nT
      · have hki : (k : Int) < (nT : Int) := by omega
        obtain ⟨b, o, ⟨⟨as_, ns, cs⟩, vs⟩, rfl, hbl, hx, ⟨hs1, hs2, hs3⟩, e0⟩ := (HI0.out.T.below HBk.out).at_ hkn
        simp only [big] at e0 hs1 hs2 hs3
        have HS := hide hs1
        clear hx hs1
        go_wp2_with fail
        generalize wr = w9 at *
        go_loopw [3, 49] (fun av kv wr => ∃ (y : Int) (j : Nat), av = .int .i64 y ∧ kv = .int .i64 (j : Int) ∧ j ≤ ns ∧ Hid (wr = w9)) (fun _ kv _ => ns - (intOf kv).toNat)
        case atStart => exact ⟨_, 0, rfl, rfl, Nat.zero_le _, hide rfl⟩
        case round =>
          obtain ⟨y, j, rfl, rfl, hj, HE⟩ := hrel
          obtain rfl := HE.out
          by_cases hjn : j < ns
          · have hji : (j : Int) < (ns : Int) := by omega
            obtain ⟨b1, o1, v1, rfl, hb1, hx1, f0⟩ := HS.out.at_ hjn
            clear hx1 hb1 hbl
            go_wp2
            go_roundw
            case rel => exact ⟨_, j + 1, rfl, by go_num, by omega, hide trivial⟩
            case measure => simp [intOf]; omega
          · obtain rfl : j = ns := by omega
            clear hjn
            go_wp2
            go_roundw
            case rel => exact ⟨_, k + 1, rfl, by go_num, by omega, HBk⟩
            case measure => simp [intOf]; omega
      obtain rfl : k = nT := by omega
      obtain ⟨k0, k1, k2, k3, k4, k5, k6⟩ := HC.out.below HBk.out
      simp only at k0 k1 k2 k3 k4 k5 k6
      clear hkn
      go_wp2_with fail
      clear k0 k1 k2 k3 k4 k5 k6
      generalize wr = v2 at *
      have Hv2 := HBk
      clear HBk
      go_loopw [3, 63] (fun av kv wr => ∃ (x : Int) (k : Nat), av = .int .i64 x ∧ kv = .int .i64 (k : Int) ∧ k ≤ nX ∧ Hid (Below W0.heap.size W0 wr)) (fun _ kv _ => nX - (intOf kv).toNat)
      case atStart => exact ⟨_, 0, rfl, rfl, Nat.zero_le _, Hv2⟩
      case round =>
        obtain ⟨x, k, rfl, rfl, hk, HBk⟩ := hrel
        by_cases hkn : k < nX
        · have hki : (k : Int) < (nX : Int) := by omega
          obtain ⟨b, o, ⟨xl, xb, xe, ⟨as_, ns, cs⟩, xp⟩, rfl, hbl, hx, ⟨hs1, hs2, hs3⟩, e0, e1, e2, e3⟩ := (HI0.out.X.below HBk.out).at_ hkn
          simp only [big] at e0 e1 e2 e3 hs1 hs2 hs3
          have HB2 := hide (bl_alloc HBk.out (.cells #[.string (bstr xl), .int .i64 xb, .int .i64 xe, .slice as_ ns cs] 88 (0, 0)))
          have HS := hide (IsP.below hs1 (bl_alloc (bl_refl wr) (.cells #[.string (bstr xl), .int .i64 xb, .int .i64 xe, .slice as_ ns cs] 88 (0, 0))))
          have HN0 : Hid ((wr.alloc (.cells #[.string (bstr xl), .int .i64 xb, .int .i64 xe, .slice as_ ns cs] 88 (0, 0))).cell? ⟨wr.heap.size, 0, none⟩ = some (.string (bstr xl))) := hide (cell_of_row _ _ 0 _ _ _ (heap_alloc_new wr (.cells #[.string (bstr xl), .int .i64 xb, .int .i64 xe, .slice as_ ns cs] 88 (0, 0))))
          have HN3 : Hid ((wr.alloc (.cells #[.string (bstr xl), .int .i64 xb, .int .i64 xe, .slice as_ ns cs] 88 (0, 0))).cell? ⟨wr.heap.size, 3, none⟩ = some (.slice as_ ns cs)) := hide (cell_of_row _ _ 3 _ _ _ (heap_alloc_new wr (.cells #[.string (bstr xl), .int .i64 xb, .int .i64 xe, .slice as_ ns cs] 88 (0, 0))))
          clear hx hs1
          go_wp2_with fail
          refine wp_region_K 9 (by kernel_rfl) (by kernel_rfl) (fun Q HQ => ?_)
          simp only [List.take_succ_cons, List.take_zero, List.map_cons, List.map_nil]
          repeat
            first | apply wpS_c rfl | apply wpS_gc rfl (guard_mk rfl rfl)
            focus
              intro ev wx hC hx
              (try simp [Op.operands, Call.operands, opndS, Slot.holds] at hx)
              have k0 := hC.cell HN0.out
              have k1 := hC.cell HN3.out
              go_simp
              try (first | exact rfl | exact ⟨Below.refl _ _, rfl⟩)
              done
            dsimp only [setS, List.set]
          refine wpS_p (R := IntV) rfl stab_int ?_ ?_
          focus
            intro ev wx hC hx
            (try simp [Op.operands, Call.operands, opndS, Slot.holds] at hx)
            go_simp
            refine (weight_any as_ ns cs xp wx (HS.out.below hC.below) (by simp only [big]; omega)).mono ?_
            rintro e w' ⟨x1, rfl, hb⟩
            exact ⟨_, rfl, hb, x1, rfl⟩
          dsimp only [setS, List.set]
          refine wpS_p (R := IntV) rfl stab_int ?_ ?_
          focus
            intro ev wx hC hx
            (try simp [Op.operands, Call.operands, opndS, Slot.holds] at hx)
            obtain ⟨h1, x1, h2⟩ := hx
            go_simp
            exact ⟨bl_refl _, _, rfl⟩
          dsimp only [setS, List.set]
          refine wpS_nil (HQ _ fun w6 hC6 => ?_)
          simp only [closeS, List.drop_succ_cons, List.drop_zero, List.drop_nil]
          rintro _ ⟨x1, rfl⟩ _ ⟨x2, rfl⟩
          have HB2 := hide (HB2.out.trans (hC6.below.mono HB2.out.size))
          clear HQ hC6
          go_wp2
          go_roundw
          case rel => exact ⟨_, k + 1, rfl, by go_num, by omega, HB2⟩
          case measure => simp [intOf]; omega
        obtain rfl : k = nX := by omega
        obtain ⟨k0, k1, k2, k3, k4, k5, k6⟩ := HC.out.below HBk.out
        simp only at k0 k1 k2 k3 k4 k5 k6
        clear hkn
        go_wp2_with fail
        clear k0 k1 k2 k3 k4 k5 k6
        generalize wr = v3 at *
        have Hv3 := HBk
        clear HBk
        go_loopw [3, 81] (fun av kv wr => ∃ (x : Int) (k : Nat), av = .int .i64 x ∧ kv = .int .i64 (k : Int) ∧ k ≤ nR ∧ Hid (Below W0.heap.size W0 wr)) (fun _ kv _ => nR - (intOf kv).toNat)
        case atStart => exact ⟨_, 0, rfl, rfl, Nat.zero_le _, Hv3⟩
        case round =>
          obtain ⟨x, k, rfl, rfl, hk, HBk⟩ := hrel
          by_cases hkn : k < nR
          · have hki : (k : Int) < (nR : Int) := by omega
            obtain ⟨b, o, ⟨xl, xb, xe, ⟨as_, ns, cs⟩, xp⟩, rfl, hbl, hx, ⟨hs1, hs2, hs3⟩, e0, e1, e2, e3⟩ := (HI0.out.R.below HBk.out).at_ hkn
            simp only [big] at e0 e1 e2 e3 hs1 hs2 hs3
            have HB2 := hide (bl_alloc HBk.out (.cells #[.string (bstr xl), .int .i64 xb, .int .i64 xe, .slice as_ ns cs] 76 (0, 0)))
            have HS := hide (IsP.below hs1 (bl_alloc (bl_refl wr) (.cells #[.string (bstr xl), .int .i64 xb, .int .i64 xe, .slice as_ ns cs] 76 (0, 0))))
            have HN0 : Hid ((wr.alloc (.cells #[.string (bstr xl), .int .i64 xb, .int .i64 xe, .slice as_ ns cs] 76 (0, 0))).cell? ⟨wr.heap.size, 0, none⟩ = some (.string (bstr xl))) := hide (cell_of_row _ _ 0 _ _ _ (heap_alloc_new wr (.cells #[.string (bstr xl), .int .i64 xb, .int .i64 xe, .slice as_ ns cs] 76 (0, 0))))
            have HN3 : Hid ((wr.alloc (.cells #[.string (bstr xl), .int .i64 xb, .int .i64 xe, .slice as_ ns cs] 76 (0, 0))).cell? ⟨wr.heap.size, 3, none⟩ = some (.slice as_ ns cs)) := hide (cell_of_row _ _ 3 _ _ _ (heap_alloc_new wr (.cells #[.string (bstr xl), .int .i64 xb, .int .i64 xe, .slice as_ ns cs] 76 (0, 0))))
            clear hx hs1
            go_wp2_with fail
            refine wp_region_K 9 (by kernel_rfl) (by kernel_rfl) (fun Q HQ => ?_)
            simp only [List.take_succ_cons, List.take_zero, List.map_cons, List.map_nil]
            repeat
              first | apply wpS_c rfl | apply wpS_gc rfl (guard_mk rfl rfl)
              focus
                intro ev wx hC hx
                (try simp [Op.operands, Call.operands, opndS, Slot.holds] at hx)
                have k0 := hC.cell HN0.out
                have k1 := hC.cell HN3.out
                go_simp
                try (first | exact rfl | exact ⟨Below.refl _ _, rfl⟩)
                done
              dsimp only [setS, List.set]
            refine wpS_p (R := IntV) rfl stab_int ?_ ?_
            focus
              intro ev wx hC hx
              (try simp [Op.operands, Call.operands, opndS, Slot.holds] at hx)
              go_simp
              refine (weight_any as_ ns cs xp wx (HS.out.below hC.below) (by simp only [big]; omega)).mono ?_
              rintro e w' ⟨x1, rfl, hb⟩
              exact ⟨_, rfl, hb, x1, rfl⟩
            dsimp only [setS, List.set]
            refine wpS_p (R := IntV) rfl stab_int ?_ ?_
            focus
              intro ev wx hC hx
              (try simp [Op.operands, Call.operands, opndS, Slot.holds] at hx)
              obtain ⟨h1, x1, h2⟩ := hx
              go_simp
              exact ⟨bl_refl _, _, rfl⟩
            dsimp only [setS, List.set]
            refine wpS_nil (HQ _ fun w6 hC6 => ?_)
            simp only [closeS, List.drop_succ_cons, List.drop_zero, List.drop_nil]
            rintro _ ⟨x1, rfl⟩ _ ⟨x2, rfl⟩
            have HB2 := hide (HB2.out.trans (hC6.below.mono HB2.out.size))
            clear HQ hC6
            go_wp2
            go_roundw
            case rel => exact ⟨_, k + 1, rfl, by go_num, by omega, HB2⟩
            case measure => simp [intOf]; omega
          obtain rfl : k = nR := by omega
          obtain ⟨k0, k1, k2, k3, k4, k5, k6⟩ := HC.out.below HBk.out
          simp only at k0 k1 k2 k3 k4 k5 k6
          clear hkn
          go_wp2_with fail
          clear k0 k1 k2 k3 k4 k5 k6
          generalize wr = v4 at *
          have Hv4 := HBk
          clear HBk
          go_loopw [3, 99] (fun av kv wr => ∃ (x : Int) (k : Nat), av = .int .i64 x ∧ kv = .int .i64 (k : Int) ∧ k ≤ nN ∧ Hid (Below W0.heap.size W0 wr)) (fun _ kv _ => nN - (intOf kv).toNat)
          case atStart => exact ⟨_, 0, rfl, rfl, Nat.zero_le _, Hv4⟩
          case round =>
            obtain ⟨x, k, rfl, rfl, hk, HBk⟩ := hrel
            by_cases hkn : k < nN
            · have hki : (k : Int) < (nN : Int) := by omega
              obtain ⟨b, o, ⟨xl, xb, xe, xp⟩, rfl, hbl, hx, e0, e1, e2, e3⟩ := (HI0.out.N.below HBk.out).at_ hkn
              simp only at e0 e1 e2 e3
              have HB2 := hide (bl_alloc HBk.out (.cells #[.string (bstr xl), .int .i64 xb, .int .i64 xe, .int .i64 xp] 33 (0, 0)))
              clear hx
              go_wp2
              go_roundw
              case rel => exact ⟨_, k + 1, rfl, by go_num, by omega, HB2⟩
              case measure => simp [intOf]; omega
            obtain rfl : k = nN := by omega
            obtain ⟨k0, k1, k2, k3, k4, k5, k6⟩ := HC.out.below HBk.out
            simp only at k0 k1 k2 k3 k4 k5 k6
            clear hkn
            go_wp2_with fail
            clear k0 k1 k2 k3 k4 k5 k6
            generalize wr = v5 at *
            have Hv5 := HBk
            clear HBk
            go_loopw [3, 113] (fun av kv wr => ∃ (x : Int) (k : Nat), av = .int .i64 x ∧ kv = .int .i64 (k : Int) ∧ k ≤ nL ∧ Hid (Below W0.heap.size W0 wr)) (fun _ kv _ => nL - (intOf kv).toNat)
            case atStart => exact ⟨_, 0, rfl, rfl, Nat.zero_le _, Hv5⟩
            case round =>
              obtain ⟨x, k, rfl, rfl, hk, HBk⟩ := hrel
              by_cases hkn : k < nL
              · have hki : (k : Int) < (nL : Int) := by omega
                obtain ⟨b, o, s, rfl, hbl, hx, e0⟩ := (HI0.out.L.below HBk.out).at_ hkn
                have HB2 := HBk
                clear hx
                go_wp2
                go_roundw
                case rel => exact ⟨_, k + 1, rfl, by go_num, by omega, HB2⟩
                case measure => simp [intOf]; omega
              obtain rfl : k = nL := by omega
              have HBB := hide (HB.out.trans (HBk.out.mono HB.out.size))
              clear hkn
              go_wp2
              go_ret
              exact ⟨_, rfl, HBB.out⟩
end Go.Proofs.YtbpkclopcoaikaaGreatDoor
