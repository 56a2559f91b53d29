/- The walks of treerel's token, head, Nodes and Common. -/
import Derived.Test.YtbpkclopcoaikaaGreatDoorUNm
import Derived.Test.YtbpkclopcoaikaaGreatDoorTfWm
namespace Go.Proofs.YtbpkclopcoaikaaGreatDoor
open Go.RowKit
set_option linter.unusedVariables false
set_option linter.unusedSimpArgs false
set_option maxHeartbeats 2000000 in
set_option maxRecDepth 100000 in
theorem token_any (c : Cv) (i : Int) (b : Bool) (hb : b = (decide (0 ≤ i) && decide (i < (c.T.n : Int)))) (w : World) :
    Calls Tryz.prog 25 #[c.v, .int .i64 i] w fun e w' => e = .returned (.bool b) ∧ Below w.heap.size w w' := by
  have HB := hide (bl_alloc (bl_refl w) c.o)
  have HBB := hide hb
  clear hb
  go_enter Tryz.func25, Tryz.ntmps25
  by_cases h1 : 0 ≤ i
  · by_cases h2 : i < (c.T.n : Int)
    · go_wp2
      go_ret
      exact ⟨by rw [HBB.out, decide_eq_true h1, decide_eq_true h2]; rfl, HB.out⟩
    · go_wp2
      go_ret
      exact ⟨by rw [HBB.out, decide_eq_true h1, decide_eq_false (show ¬ i < (c.T.n : Int) by omega)]; rfl, HB.out⟩
  · go_wp2
    go_ret
    exact ⟨by rw [HBB.out, decide_eq_false (show ¬ 0 ≤ i by omega)]; rfl, HB.out⟩
theorem token_tok (c : Cv) (i : Nat) (wx : World) (hi : i < c.T.n) : Calls Tryz.prog 25 #[c.v, .int .i64 (i : Int)] wx fun e w' => e = .returned (.bool true) ∧ Below wx.heap.size wx w' :=
  token_any c i true (by rw [decide_eq_true (show (0 : Int) ≤ (i : Int) by omega), decide_eq_true (show (i : Int) < (c.T.n : Int) by omega)]; rfl) wx
set_option maxHeartbeats 2000000 in
set_option maxRecDepth 100000 in
theorem head_any (c : Cv) (p : List Int) (i : Nat) (x : Int) (w : World) (h : IsHd w c p) (hx : p[i]? = some x) :
    Calls Tryz.prog 33 #[c.v, .int .i64 (i : Int)] w fun e w' => e = .returned (.int .i64 x) ∧ Below w.heap.size w w' := by
  have HB := hide (bl_alloc (bl_refl w) c.o)
  have hr := h.rng i x hx
  have hi := (List.getElem?_eq_some_iff.1 hx).1
  have HL := hide h.len
  have HX := hide hx
  have hcas := h.cas
  clear h hx
  go_enter Tryz.func33, Tryz.ntmps33
  have HC0 := hide (CCells.new w c)
  have HW1 : Hid (∀ wx, CB (w.alloc c.o).drew wx → CCells wx w.heap.size c) := hide (fun wx h => HC0.out.below h.below)
  rcases hcas with ⟨h0, hp⟩ | hI
  · have hx1 : x = -1 := by
      have := HX.out
      rw [hp, List.getElem?_replicate] at this
      split at this
      · injection this with this; omega
      · cases this
    subst hx1
    clear hp hr
    have HH0 := hide h0
    clear h0
    go_wp2_with fail
    refine wp_region_K 14 (by kernel_rfl) (by kernel_rfl) (fun Q HQ => ?_)
    simp only [List.take_succ_cons, List.take_zero, List.map_cons, List.map_nil]
    have h0' : ¬ (i : Int) < (c.H.n : Int) := by have := HH0.out; omega
    repeat
      first | apply wpS_c rfl | apply wpS_gc rfl (guard_mk rfl rfl)
      focus
        intro ev wx hC hx
        (try simp [Op.operands, Call.operands, opndS, Slot.holds] at hx)
        obtain ⟨c0, c1, c2, c3, c4, c5, c6⟩ := HW1.out _ hC
        go_simp
        try (first | exact rfl | exact ⟨Below.refl _ _, rfl⟩)
        done
      dsimp only [setS, List.set]
    repeat
      first
      | (refine wpS_skip (b := true) rfl (guard_mk rfl rfl) ?_)
      | (refine wpS_skip (b := false) rfl (guard_mk rfl rfl) ?_)
      | (refine wpS_skipU rfl (guardU_mk rfl rfl) ?_)
      | (first | apply wpS_c rfl | apply wpS_gc rfl (guard_mk rfl rfl)
         focus
           intro ev wx hC hx
           (try simp [Op.operands, Call.operands, opndS, Slot.holds] at hx)
           go_simp
           try (first | exact rfl | exact ⟨Below.refl _ _, rfl⟩)
           done)
      dsimp only [setS, List.set]
    refine wpS_nil (HQ _ fun w6 hC6 => ?_)
    simp only [closeS, List.drop_succ_cons, List.drop_zero, List.drop_nil]
    have HB6 := hide (HB.out.trans (hC6.below.mono HB.out.size))
    clear HQ hC6
    go_wp2
    go_ret
    exact ⟨rfl, HB6.out⟩
  · have HI := hide hI
    clear hI
    have hin : c.H.n = p.length := HI.out.1
    have HIN := hide hin
    obtain ⟨bl, ol, y, hal, hbl, hy, e0⟩ := HI.out.at_ (show i < c.H.n by omega)
    obtain rfl : x = y := by
      have := HX.out
      rw [this] at hy
      injection hy
    obtain ⟨cA, cT, cX, cR, cN, ⟨aH, nH, cH⟩, cL⟩ := c
    simp only at hal hin HIN HB HW1 HL HC0 HI
    subst hal
    have HE : Hid (∀ wx, CB (w.alloc (Cv.mk cA cT cX cR cN ⟨some ⟨bl, ol, none⟩, nH, cH⟩ cL).o).drew wx → wx.cell? ⟨bl, ol + i, none⟩ = some (.int .i64 x)) := hide (fun wx h => (h.below.cell (p := ⟨bl, ol + i, none⟩) (Nat.lt_of_lt_of_le hbl HB.out.size)).trans ((HB.out.cell hbl).trans e0))
    have h2 : (i : Int) < (nH : Int) := by omega
    have h3 : (i : Int) < (p.length : Int) := by omega
    have h4 : ¬ x < -1 := by omega
    by_cases hx0 : 0 ≤ x
    · have HTK : Hid (∀ wx, Calls Tryz.prog 25 #[(Cv.mk cA cT cX cR cN ⟨some ⟨bl, ol, none⟩, nH, cH⟩ cL).v, .int .i64 x] wx fun e w' => e = .returned (.bool true) ∧ Below wx.heap.size wx w') := hide (fun wx => token_any (Cv.mk cA cT cX cR cN ⟨some ⟨bl, ol, none⟩, nH, cH⟩ cL) x true (by rw [decide_eq_true hx0, decide_eq_true (show x < (cT.n : Int) by have := HL.out; omega)]; rfl) wx)
      clear hin h3 h4 hr hi hy e0 hbl
      go_wp2_with fail
      refine wp_region_K 14 (by kernel_rfl) (by kernel_rfl) (fun Q HQ => ?_)
      simp only [List.take_succ_cons, List.take_zero, List.map_cons, List.map_nil]
      repeat
        first | apply wpS_c rfl | apply wpS_gc rfl (guard_mk rfl rfl)
        focus
          intro ev wx hC hx
          (try simp [Op.operands, Call.operands, opndS, Slot.holds] at hx)
          obtain ⟨c0, c1, c2, c3, c4, c5, c6⟩ := HW1.out _ hC
          have q0 := HE.out _ hC
          go_simp
          try (first | exact rfl | exact ⟨Below.refl _ _, rfl⟩ | (go_at_call 25; refine (HTK.out _).mono ?_; rintro e w' ⟨rfl, hb⟩; exact ⟨rfl, hb⟩))
          done
        dsimp only [setS, List.set]
      refine wpS_nil (HQ _ fun w6 hC6 => ?_)
      simp only [closeS, List.drop_succ_cons, List.drop_zero, List.drop_nil]
      have HB6 := hide (HB.out.trans (hC6.below.mono HB.out.size))
      obtain ⟨c0, c1, c2, c3, c4, c5, c6⟩ := HW1.out _ hC6
      have q0 := HE.out _ hC6
      clear HQ hC6
      go_wp2
      go_ret
      exact ⟨rfl, HB6.out⟩
    · have HTK : Hid (∀ wx, Calls Tryz.prog 25 #[(Cv.mk cA cT cX cR cN ⟨some ⟨bl, ol, none⟩, nH, cH⟩ cL).v, .int .i64 x] wx fun e w' => e = .returned (.bool false) ∧ Below wx.heap.size wx w') := hide (fun wx => token_any (Cv.mk cA cT cX cR cN ⟨some ⟨bl, ol, none⟩, nH, cH⟩ cL) x false (by rw [decide_eq_false hx0]; rfl) wx)
      have HX1 := hide (show x = -1 by omega)
      clear hin h3 h4 hr hi hy e0 hbl
      go_wp2_with fail
      refine wp_region_K 14 (by kernel_rfl) (by kernel_rfl) (fun Q HQ => ?_)
      simp only [List.take_succ_cons, List.take_zero, List.map_cons, List.map_nil]
      repeat
        first | apply wpS_c rfl | apply wpS_gc rfl (guard_mk rfl rfl)
        focus
          intro ev wx hC hx
          (try simp [Op.operands, Call.operands, opndS, Slot.holds] at hx)
          obtain ⟨c0, c1, c2, c3, c4, c5, c6⟩ := HW1.out _ hC
          have q0 := HE.out _ hC
          go_simp
          try (first | exact rfl | exact ⟨Below.refl _ _, rfl⟩ | (go_at_call 25; refine (HTK.out _).mono ?_; rintro e w' ⟨rfl, hb⟩; exact ⟨rfl, hb⟩))
          done
        dsimp only [setS, List.set]
      refine wpS_nil (HQ _ fun w6 hC6 => ?_)
      simp only [closeS, List.drop_succ_cons, List.drop_zero, List.drop_nil]
      have HB6 := hide (HB.out.trans (hC6.below.mono HB.out.size))
      obtain ⟨c0, c1, c2, c3, c4, c5, c6⟩ := HW1.out _ hC6
      have q0 := HE.out _ hC6
      clear HQ hC6
      go_wp2
      go_ret
      exact ⟨by rw [HX1.out]; rfl, HB6.out⟩
/-- The nodes that contain a span. -/
def holdL (l : List Nd) (lo hi : Int) (k : Nat) : List Nat := (List.range k).filter fun i => match l[i]? with
  | some x => decide (x.b ≤ lo) && decide (hi ≤ x.e)
  | none => false
theorem holdL_succ {l : List Nd} {lo hi : Int} {k : Nat} {x : Nd} (h : l[k]? = some x) : holdL l lo hi (k + 1) = if x.b ≤ lo ∧ hi ≤ x.e then holdL l lo hi k ++ [k] else holdL l lo hi k := by
  unfold holdL
  rw [List.range_succ, List.filter_append]
  by_cases h1 : x.b ≤ lo ∧ hi ≤ x.e
  · rw [if_pos h1]; simp [h, h1.1, h1.2]
  · rw [if_neg h1]
    have : (decide (x.b ≤ lo) && decide (hi ≤ x.e)) = false := by
      rw [Bool.eq_false_iff]
      intro h2
      simp at h2
      exact h1 h2
    simp [h, this]
theorem holdL_len (l : List Nd) (lo hi : Int) (k : Nat) : (holdL l lo hi k).length ≤ k := by
  have h1 : (holdL l lo hi k).length ≤ (List.range k).length := List.length_filter_le _ _
  rwa [List.length_range] at h1
/-- The last node that contains a span, -1 if none does. -/
def lastI (l : List Nat) : Int := match l.getLast? with
  | some t => (t : Int)
  | none => -1
set_option maxHeartbeats 2000000 in
set_option maxRecDepth 100000 in
theorem nodes_any (c : Cv) (l : List Nd) (lo hi : Int) (w : World) (h : IsN w c.N.a c.N.n l) (hm : c.N.n ≤ 4096) (h1 : 0 ≤ lo) (h2 : lo < hi) (h3 : hi ≤ (c.T.n : Int)) :
    Calls Tryz.prog 26 #[c.v, .agg #[.int .i64 lo, .int .i64 hi]] w fun e w' => ∃ a n cc, e = .returned (.slice a n cc) ∧ n = (holdL l lo hi c.N.n).length ∧ Below w.heap.size w w' ∧ IsI w' a n (nats (holdL l lo hi c.N.n)) := by
  have HI := hide h
  clear h
  obtain ⟨cA, cT, cX, cR, ⟨aN, nN, cN⟩, cH, cL⟩ := c
  simp only at HI hm h3 ⊢
  have h1' : ¬ lo < 0 := by omega
  have h2' : ¬ hi ≤ lo := by omega
  have h3' : ¬ (cT.n : Int) < hi := by omega
  have HB := hide (bl_alloc (bl_alloc (bl_refl w) (Cv.mk cA cT cX cR ⟨aN, nN, cN⟩ cH cL).o) (.cells #[.int .i64 lo, .int .i64 hi] 65 (0, 0)))
  have HC0 := hide ((CCells.new w (Cv.mk cA cT cX cR ⟨aN, nN, cN⟩ cH cL)).below (bl_alloc (bl_refl _) (.cells #[.int .i64 lo, .int .i64 hi] 65 (0, 0))))
  go_enter Tryz.func26, Tryz.ntmps26
  go_wp2_with fail
  obtain ⟨W2, hW2⟩ : ∃ W2, W2 = (w.alloc (Cv.mk cA cT cX cR ⟨aN, nN, cN⟩ cH cL).o).alloc (.cells #[.int .i64 lo, .int .i64 hi] 65 (0, 0)) := ⟨_, rfl⟩
  have hsp0 : W2.cell? ⟨w.heap.size + 1, 0, none⟩ = some (.int .i64 lo) := by
    rw [hW2]
    have := heap_alloc_new (w.alloc (Cv.mk cA cT cX cR ⟨aN, nN, cN⟩ cH cL).o) (.cells #[.int .i64 lo, .int .i64 hi] 65 (0, 0))
    rw [show (w.alloc (Cv.mk cA cT cX cR ⟨aN, nN, cN⟩ cH cL).o).heap.size = w.heap.size + 1 by simp] at this
    exact cell_of_row _ _ 0 _ _ _ this
  have hsp1 : W2.cell? ⟨w.heap.size + 1, 1, none⟩ = some (.int .i64 hi) := by
    rw [hW2]
    have := heap_alloc_new (w.alloc (Cv.mk cA cT cX cR ⟨aN, nN, cN⟩ cH cL).o) (.cells #[.int .i64 lo, .int .i64 hi] 65 (0, 0))
    rw [show (w.alloc (Cv.mk cA cT cX cR ⟨aN, nN, cN⟩ cH cL).o).heap.size = w.heap.size + 1 by simp] at this
    exact cell_of_row _ _ 1 _ _ _ this
  have HSP := hide (And.intro hsp0 hsp1)
  rw [← hW2] at HB HC0 ⊢
  have HI2 := hide (HI.out.below HB.out)
  have HF0 : Hid (Fam W2.heap.size 0 (fun _ => False) (fun _ => .slice none 0 0) (fun _ => nats (holdL l lo hi 0)) W2) := hide ⟨fun i hi => World.ownsRow_nil _ _ _ _, fun i k hi hk hik => absurd hik (by omega), fun i hi g h => by simp [Value.ownBlock] at h⟩
  clear hsp0 hsp1 hW2
  go_loopw [5, 29] (fun ov kv wr => ∃ (k : Nat), kv = .int .i64 (k : Int) ∧ k ≤ nN ∧ Hid (Fam W2.heap.size 0 (fun _ => False) (fun _ => ov) (fun _ => nats (holdL l lo hi k)) wr) ∧ Hid (Below W2.heap.size W2 wr)) (fun _ kv _ => nN - (intOf kv).toNat)
  case atStart => exact ⟨0, rfl, Nat.zero_le _, HF0, hide (bl_refl W2)⟩
  case round =>
    obtain ⟨k, rfl, hk, HF, HBk⟩ := hrel
    by_cases hkn : k < nN
    · have hki : (k : Int) < (nN : Int) := by omega
      obtain ⟨bl, ol, x, rfl, hbl, hx, e0, e1, e2, e3⟩ := (HI2.out.below HBk.out).at_ hkn
      have HS := hide (holdL_succ (lo := lo) (hi := hi) hx)
      obtain ⟨xl, xb, xe, xp⟩ := x
      simp only at e0 e1 e2 e3 HS
      have HBA := hide (bl_alloc (bl_refl wr) (.cells #[.string (bstr xl), .int .i64 xb, .int .i64 xe, .int .i64 xp] 33 (0, 0)))
      have HBN := hide (HBk.out.trans (HBA.out.mono HBk.out.size))
      have HFN : Hid (Fam W2.heap.size 0 (fun _ => False) (fun _ => u5) (fun _ => nats (holdL l lo hi k)) (wr.alloc (.cells #[.string (bstr xl), .int .i64 xb, .int .i64 xe, .int .i64 xp] 33 (0, 0)))) := hide (HF.out.grown (World.grownBy_alloc wr _ none) (fun g h => by cases h))
      have hs0 := (HBN.out.cell (lt_heap HSP.out.1)).trans HSP.out.1
      have hs1 := (HBN.out.cell (lt_heap HSP.out.2)).trans HSP.out.2
      clear hx
      by_cases hb1 : xb ≤ lo
      · by_cases hb2 : hi ≤ xe
        · have HS2 := hide (HS.out.trans (if_pos ⟨hb1, hb2⟩))
          obtain ⟨Wa, hWa⟩ : ∃ Wa, Wa = wr.alloc (.cells #[.string (bstr xl), .int .i64 xb, .int .i64 xe, .int .i64 xp] 33 (0, 0)) := ⟨_, rfl⟩
          have hf1 : Fam W2.heap.size 0 (fun _ => False) (fun _ => u5) (fun _ => nats (holdL l lo hi k)) ((wr.alloc (.cells #[.string (bstr xl), .int .i64 xb, .int .i64 xe, .int .i64 xp] 33 (0, 0))).alloc (.cells #[.int .i64 (k : Int)] 3 (0, 0))) := HFN.out.grown (World.grownBy_alloc _ _ none) (fun g h => by cases h)
          have hr1 := rd_lit (wr.alloc (.cells #[.string (bstr xl), .int .i64 xb, .int .i64 xe, .int .i64 xp] 33 (0, 0))) #[.int .i64 (k : Int)] 3 (0, 0)
          rw [show (wr.alloc (.cells #[.string (bstr xl), .int .i64 xb, .int .i64 xe, .int .i64 xp] 33 (0, 0))).heap.size = wr.heap.size + 1 by simp] at hr1
          have hln : (nats (holdL l lo hi k)).length ≤ 100000 := by rw [nats_len]; have := holdL_len l lo hi k; omega
          have hbs : W2.heap.size ≤ ((wr.alloc (.cells #[.string (bstr xl), .int .i64 xb, .int .i64 xe, .int .i64 xp] 33 (0, 0))).alloc (.cells #[.int .i64 (k : Int)] 3 (0, 0))).heap.size := Nat.le_trans HBN.out.size (by simp)
          have hba := bl_alloc (bl_refl (wr.alloc (.cells #[.string (bstr xl), .int .i64 xb, .int .i64 xe, .int .i64 xp] 33 (0, 0)))) (.cells #[.int .i64 (k : Int)] 3 (0, 0))
          have HBM := hide (HBN.out.trans (hba.mono HBN.out.size))
          have HF1 := hide hf1
          have HR1 := hide hr1
          have HLN := hide hln
          have HBS := hide hbs
          clear hf1 hr1 hln hbs hba hWa
          go_wp2_with (at_builtin; go_loud (refine wpList_append_fam rfl (.tmp 46) (.tmp 48) 27 rfl Tryz.underlying27 W2.heap.size 0 _ (fun _ => u5) (fun _ => nats (holdL l lo hi k)) HF1.out 0 (Nat.le_refl 0) (fun g h => h.elim) rfl (some ⟨wr.heap.size + 1, 0, none⟩) 1 (k : Int) rfl HR1.out HLN.out HBS.out ?_); intro v' w' hf' hg'; have HF' := hide hf'.one; have HB' := hide (bl_grown HBM.out hg' (fun g e => ((HF1.out.own 0 (Nat.le_refl _)).lt g e).1)); clear hf' hg')
          simp only [if_pos] at HF'
          rw [show nats (holdL l lo hi k) ++ [(k : Int)] = nats (holdL l lo hi (k + 1)) by rw [HS2.out]; simp [nats]] at HF'
          go_roundw
          case rel => exact ⟨k + 1, by go_num, by omega, HF', HB'⟩
          case measure => simp [intOf]; omega
        · have HS2 := hide (HS.out.trans (if_neg (fun h => hb2 h.2)))
          have hb2' : ¬ hi ≤ xe := hb2
          go_wp2
          rw [← HS2.out] at HFN
          go_roundw
          case rel => exact ⟨k + 1, by go_num, by omega, HFN, HBN⟩
          case measure => simp [intOf]; omega
      · have HS2 := hide (HS.out.trans (if_neg (fun h => hb1 h.1)))
        go_wp2
        rw [← HS2.out] at HFN
        go_roundw
        case rel => exact ⟨k + 1, by go_num, by omega, HFN, HBN⟩
        case measure => simp [intOf]; omega
    · obtain rfl : k = nN := by omega
      obtain ⟨a, cc, hv, _, _, hI⟩ := own_isI (HF.out.own 0 (Nat.le_refl _)) rfl
      subst hv
      have HR := hide hI
      have HBB := hide (HB.out.trans (HBk.out.mono HB.out.size))
      clear hI hkn
      go_wp2_with fail
      go_ret
      exact ⟨a, _, cc, rfl, nats_len _, HBB.out, HR.out⟩
end Go.Proofs.YtbpkclopcoaikaaGreatDoor
