/- The walk of bracket.Format, at the nodes of a valid corpus: it finds no error. -/
import Derived.Test.YtbpkclopcoaikaaGreatDoorMm
import Derived.Test.YtbpkclopcoaikaaGreatDoorWcWm
import Derived.Test.YtbpkclopcoaikaaGreatDoorMc
import Derived.Lib.AppendStr
namespace Go.Proofs.YtbpkclopcoaikaaGreatDoor
open Go.RowKit
set_option linter.unusedVariables false
set_option linter.unusedSimpArgs false
theorem WrI.outG2 {w wa wb w3 : World} {g m co n cp m1 c1 m' c' gS gT : Nat} {ao ap : Option Addr} {xs ys xs' : List Value} {op : List Int} {k : Int} (h : WrI w g ao m co ap n cp xs op k) (hb : Below w.heap.size w wa) (hg : wa.grownBy wb (Value.slice ao m co).ownBlock)
    (ho1 : wb.ownsRow (g + 1) 5 1 (.slice (some ⟨gS, 0, none⟩) m1 c1) m1 ys) (hg2 : wb.grownBy w3 (Value.slice (some ⟨gS, 0, none⟩) m1 c1).ownBlock)
    (ho : w3.ownsRow (g + 1) 5 1 (.slice (some ⟨gT, 0, none⟩) m' c') m' xs') (hx : ∀ u ∈ xs', ∃ c : UInt8, u = u8v c) :
    WrI (w3.setCell ⟨g, 0, none⟩ (.slice (some ⟨gT, 0, none⟩) m' c')) g (some ⟨gT, 0, none⟩) m' c' ap n cp xs' op k ∧ WFr g w (w3.setCell ⟨g, 0, none⟩ (.slice (some ⟨gT, 0, none⟩) m' c')) := by
  have hi := h.below hb
  have hgl := h.bx.lt
  have hne : (Value.slice ao m co).ownBlock ≠ some g := fun e => by have := (ownG_lt h.out e).1; omega
  have hne2 : (Value.slice (some ⟨gS, 0, none⟩) m1 c1).ownBlock ≠ some g := fun e => by have := (ownG_lt ho1 e).1; omega
  have hop := ownG_grown hi.opn hg fun q hq e => own_ty_apart hi.opn hi.out (by decide) q hq e
  refine ⟨⟨((hi.bx.grown hg hne).grown hg2 hne2).set 0 _, ownG_setlt ho (by omega) 0 _, hx, ownG_setlt (ownG_grown hop hg2 fun q hq e => own_ty_apart hop ho1 (by decide) q hq e) (by omega) 0 _, h.len⟩, ⟨?_, fun j cs T h1 h2 h3 h4 => ?_⟩⟩
  · have h1 : Below g w wb := (hb.mono (Nat.le_of_lt hgl)).grown hg (by have := hb.size; omega) (fun q hq => by have := (ownG_lt h.out hq).1; omega)
    have h2 : Below g w w3 := h1.grown hg2 (by have := hb.size; have := hg.size; omega) (fun q hq => by have := (ownG_lt ho1 hq).1; omega)
    exact h2.setCell (p := ⟨g, 0, none⟩) (Nat.le_refl _) _
  · have h5 := (h4.below hb).grown hg (own_ne_blk hi.out (h4.below hb) (Ne.symm h2))
    exact (h5.grown hg2 (own_ne_blk ho1 h5 (Ne.symm h2))).setne h1 0 _
theorem by_list {xs : List Value} (h : ∀ u ∈ xs, ∃ c : UInt8, u = u8v c) : ∃ l : List UInt8, xs = l.map u8v := by
  induction xs with
  | nil => exact ⟨[], rfl⟩
  | cons x xs ih =>
    obtain ⟨c, rfl⟩ := h x (by simp)
    obtain ⟨l, rfl⟩ := ih (fun u hu => h u (by simp [hu]))
    exact ⟨c :: l, rfl⟩
theorem by_str {xs : List Value} (h : ∀ u ∈ xs, ∃ c : UInt8, u = u8v c) (l : List UInt8) : ∀ u ∈ xs ++ l.map u8v, ∃ c : UInt8, u = u8v c := fun u hu => by
  rcases List.mem_append.1 hu with hu | hu
  · exact h u hu
  · obtain ⟨c, _, hc⟩ := List.mem_map.1 hu
    exact ⟨c, hc.symm⟩
theorem nameB_len {s : List UInt8} (h : nameB s = true) : s.length ≤ 32 := by
  rcases Nat.lt_or_ge 32 s.length with h1 | h1
  · rw [nameB_long h1] at h
    cases h
  · exact h1
set_option maxHeartbeats 16000000 in
set_option maxRecDepth 100000 in
theorem bformat_any (a : Option Addr) (n cp : Nat) (l : List Nd) (X : List Tx) (t : Nat) (w : World) (h : IsN w a n l) (hn : n ≤ 40) (ht : t ≤ 80) (ho : NodesOk l X) (hX : TextsOk X t) :
    Calls Tryz.prog 13 #[.slice a n cp, .int .i64 (t : Int)] w fun e w' => ∃ S, e = .returned (.tuple #[.string S, .int .i64 0]) ∧ Below w.heap.size w w' := by
  obtain ⟨i2, hi2, hz0, hz1, hz2⟩ := info_parts info_u8'
  obtain ⟨i3, hi3, hy0, hy1, hy2⟩ := info_parts info_int
  have HI := hide h
  have HO := hide ho
  have HX := hide hX
  have HCK := hide (bcheck_any a n cp l X t w h hn ht ho hX)
  clear h ho hX
  have h1 : ¬ (t : Int) < 0 := by omega
  have h2 : ¬ (4096 : Int) < (t : Int) := by omega
  have h3 : ¬ (2048 : Int) < (n : Int) := by omega
  go_enter Tryz.func13, Tryz.ntmps13
  go_wp2_with fail
  refine HCK.out.mono ?_
  rintro e w1 ⟨rfl, hb1⟩
  have HB1 := hide hb1
  clear hb1 HCK
  obtain ⟨g, hg⟩ : ∃ g, g = w1.heap.size := ⟨_, rfl⟩
  obtain ⟨W1, hW1⟩ : ∃ W1, W1 = w1.alloc (.cells #[.slice none 0 0, .slice none 0 0, .int .i64 0] 82 (0, 0)) := ⟨_, rfl⟩
  have HW1 := hide hW1
  have HBW : Hid (Below w.heap.size w W1) := hide (by rw [hW1]; exact HB1.out.trans ((bl_alloc (bl_refl w1) _).mono HB1.out.size))
  have HS1 : Hid (WrS W1 g 0 0 ((0 : Nat) : Int)) := hide (by
    refine ⟨none, 0, none, 0, [], [], ?_, World.ownsRow_nil _ _ _ _, fun u hu => by simp at hu, World.ownsRow_nil _ _ _ _, rfl⟩
    rw [hW1]
    exact Blk.newG hg _ _)
  have HG := hide (show w.heap.size ≤ g ∧ g ≤ W1.heap.size by rw [hg, hW1]; exact ⟨HB1.out.size, by simp⟩)
  clear hW1
  go_wp2_with fail
  rw [← HW1.out, ← hg]
  clear hg HW1
  go_loopw [30] (fun kv wr => ∃ k m nn kk : Nat, kv = .int .i64 (k : Int) ∧ k ≤ n ∧ kk ≤ t ∧ m + 2 * nn ≤ 36 * k + 3 * kk ∧ Hid (WrS wr g m nn (kk : Int)) ∧ Hid (WFr g W1 wr)) (fun kv _ => n - (intOf kv).toNat)
  case atStart => exact ⟨0, 0, 0, 0, rfl, Nat.zero_le _, Nat.zero_le _, by omega, HS1, hide (.refl _ _)⟩
  case round =>
    obtain ⟨k, m, nn, kk, rfl, hk, hkt, hpot, HS, HF⟩ := hrel
    have HBr := hide (HBW.out.trans (HF.out.b.mono HG.out.1))
    by_cases hkn : k < n
    · have hki : (k : Int) < (n : Int) := by omega
      obtain ⟨b, o, ⟨xl, xb, xe, xp⟩, rfl, hbl, hx, e0, e1, e2, e3⟩ := (HI.out.below HBr.out).at_ hkn
      simp only at e0 e1 e2 e3
      have ho := HO.out k _ hx
      obtain ⟨tx, htm, htb, hte⟩ := ho.wi
      have htx := HX.out tx htm
      have hne := ho.ne
      have hnl := nameB_len ho.nm
      simp only at htb hte hne hnl
      obtain ⟨xb, rfl⟩ := Int.eq_ofNat_of_zero_le (show 0 ≤ xb by omega)
      have hbt : xb ≤ t := by omega
      obtain ⟨S, hS⟩ : ∃ S, S = bstr xl := ⟨_, rfl⟩
      have HSZ := hide (show S.size ≤ 32 by rw [hS, bstr_size]; exact hnl)
      have HSC : Hid (Lib.strCells S = xl.map u8v) := hide (by rw [hS]; exact str_cells xl)
      rw [← hS] at e0
      obtain ⟨W2, hW2⟩ : ∃ W2, W2 = wr.alloc (.cells #[.string S, .int .i64 (xb : Int), .int .i64 xe, .int .i64 xp] 33 (0, 0)) := ⟨_, rfl⟩
      have HW2 := hide hW2
      obtain ⟨gn, hgn⟩ : ∃ gn, gn = wr.heap.size := ⟨_, rfl⟩
      have HGN := hide hgn
      have HBL : Hid (Blk W2 gn [.string S, .int .i64 (xb : Int), .int .i64 xe, .int .i64 xp] 33) := hide (by rw [hW2]; exact Blk.newG hgn _ _)
      have hbw2 : Below wr.heap.size wr W2 := by rw [hW2]; exact bl_alloc (bl_refl wr) _
      have hgl : g < wr.heap.size := by
        obtain ⟨_, _, _, _, _, _, hi⟩ := HS.out
        exact hi.bx.lt
      have HS2 : Hid (WrS W2 g m nn (kk : Int)) := hide (by
        obtain ⟨_, _, _, _, _, _, hi⟩ := HS.out
        exact ⟨_, _, _, _, _, _, hi.below hbw2⟩)
      have HF2 := hide (HF.out.trans (.of hbw2 (Nat.le_of_lt hgl)))
      have HNE := hide (show gn ≠ g by omega)
      clear hx ho htm htb hte htx hbl hS hW2 hgn hbw2 hgl
      have HTK : Hid (∀ wx, WrS wx g m nn (kk : Int) → Calls Tryz.prog 31 #[.pointer (some ⟨g, 0, none⟩), .int .i64 (xb : Int)] wx (WtP g m nn kk xb wx)) := hide (fun wx hx => wtokens_any g m nn kk xb wx hx (by omega) (by omega))
      go_wp2_with fail
      rw [← HW2.out]
      refine (HTK.out _ HS2.out).mono ?_
      rintro e w3 ⟨rfl, m3, n3, k3, hk31, hk32, hp3, hs3, hf3⟩
      have HF3 := hide (HF2.out.trans hf3)
      have HBL3 := hide (hf3.r gn _ _ HNE.out (by decide) (by decide) HBL.out)
      have HIT : Hid (∀ wx, WrS wx g m3 n3 (k3 : Int) → Calls Tryz.prog 32 #[.pointer (some ⟨g, 0, none⟩)] wx (WrP g m3 n3 (k3 : Int) wx)) := hide (fun wx hx => witem_any g m3 n3 _ wx hx (by omega) (by omega))
      have HS3 := hide hs3
      clear hs3 hf3 HTK e0 e1 e2 e3
      rw [← HGN.out]
      clear HGN HW2 HF HBr HS2 HF2 HBL HS
      generalize wr = wr0 at *
      go_wp2_with fail
      refine (HIT.out _ HS3.out).mono ?_
      rintro e w4 ⟨rfl, m4, hm4, hs4, hf4⟩
      have HF4 := hide (HF3.out.trans hf4)
      have HBL4 := hide (hf4.r gn _ _ HNE.out (by decide) (by decide) HBL3.out)
      clear hf4 HIT HS3 HBL3 HF3
      obtain ⟨ao, co, ap, cp4, xs, op, hI⟩ := hs4
      have HI4 := hide hI
      clear hI
      have hb4 := bl_alloc (bl_refl w4.drew) (.cells #[.int .u8 40] 5 (0, 0))
      have hgs : g + 1 ≤ (w4.drew.alloc (.cells #[.int .u8 40] 5 (0, 0))).heap.size := by have := HI4.out.bx.lt; have := hb4.size; have e : w4.drew.heap.size = w4.heap.size := rfl; omega
      obtain ⟨v', WA, hrun, hown, hgr, hat⟩ := run_append_rd (P := Tryz.prog) (w := w4.drew.alloc (.cells #[.int .u8 40] 5 (0, 0))) (g + 1) 80 80 5 i2 _ 1 1 Tryz.underlying80 hi2 hz0 hz1 hz2 rfl (by decide) (.slice ao m4 co) m4 xs (ownG_below (w := w4.drew) HI4.out.out hb4) (some ⟨w4.drew.heap.size, 0, none⟩) 1 1 [.int .u8 40] rfl (rd_lit w4.drew #[.int .u8 40] 5 (0, 0)) (by intro u hu; simp at hu; subst hu; rfl) (by simp only [maxLen]; omega) (by omega) hgs
      obtain ⟨gS, cS, hv, hcc, hgb, hgl⟩ := ownG_pos hown (by omega)
      subst hv
      have HRUN := hide hrun
      have HOWN := hide hown
      have HGR := hide hgr
      have HC := hide (show ∀ wx, (wx = w4.drew ∨ wx = w4.drew.alloc (.cells #[.int .u8 40] 5 (0, 0)) ∨ wx = WA) → wx.cell? ⟨g, 0, none⟩ = some (.slice ao m4 co) ∧ wx.cell? ⟨gn, 0, none⟩ = some (.string S) by
        intro wx hwx
        have key : Blk wx g [.slice ao m4 co, .slice ap n3 cp4, .int .i64 (k3 : Int)] 82 ∧ Blk wx gn [.string S, .int .i64 (xb : Int), .int .i64 xe, .int .i64 xp] 33 := by
          rcases hwx with rfl | rfl | rfl
          · exact ⟨HI4.out.bx, HBL4.out⟩
          · exact ⟨(Blk.drew HI4.out.bx).below hb4, (Blk.drew HBL4.out).below hb4⟩
          · have ho4 := ownG_below (w := w4.drew) HI4.out.out hb4
            have hx4 := (Blk.drew HBL4.out).below hb4
            exact ⟨((Blk.drew HI4.out.bx).below hb4).grown hgr (fun e => by have := (ownG_lt ho4 e).1; omega), hx4.grown hgr (own_ne_blk ho4 hx4 (by decide))⟩
        exact ⟨key.1.cell (k := 0) rfl, key.2.cell (k := 0) rfl⟩)
      have HB4 := hide hb4
      have HB4x := hide (bl_alloc (bl_drew (bl_refl w4)) (.cells #[.int .u8 40] 5 (0, 0)))
      clear hrun hown hgr hat hcc hgb hgl hgs hb4
      go_wp2_with fail
      refine wp_region_G 6 (GAp 2 3 w4.drew (w4.drew.alloc (.cells #[.int .u8 40] 5 (0, 0))) WA) (by kernel_rfl) (by kernel_rfl) GAp.start (fun Q HQ => ?_)
      simp only [List.take_succ_cons, List.take_zero, List.map_cons, List.map_nil]
      repeat
        first | apply wpG_c rfl | apply wpG_gc rfl (guard_mk rfl rfl)
        focus
          intro L ev wx hG hL hM hx
          (try simp [Op.operands, Call.operands, opndS, Slot.holds] at hx)
          obtain ⟨k0, k1⟩ := HC.out wx hG.or; have hGi := fun (i : Nat) (h : i ≠ 2) (h' : i ≠ 3) => GAp.same hG h h'
          go_simp
          try (first | exact ⟨hG, rfl⟩ | (exact ⟨hGi _ (by decide) (by decide), rfl⟩))
          done
        dsimp only [setS, List.set]
      apply wpG_c rfl
      focus
        intro L ev wx hG hL hM hx
        obtain ⟨hA, hG1⟩ := hG.one (by decide) hL
        subst hA
        (try simp [Op.operands, Call.operands, opndS, Slot.holds] at hx)
        go_simp
        exact ⟨hG1, rfl⟩
      dsimp only [setS, List.set]
      apply wpG_c rfl
      focus
        intro L ev wx hG hL hM hx
        obtain ⟨hB, hG2⟩ := hG.two (by decide) (hM 2 (by decide) (by kernel_rfl)) hL
        subst hB
        (try simp [Op.operands, Call.operands, opndS, Slot.holds] at hx)
        have hrun : (Builtin.append_ #[80, 80] 80 #[.slice ao m4 co, .slice (some ⟨w4.heap.size, 0, none⟩) 1 1]).run Tryz.prog (w4.drew.alloc (.cells #[.int .u8 40] 5 (0, 0))) = .ok (.slice (some ⟨gS, 0, none⟩) (m4 + 1) cS) WA := HRUN.out
        unfold execOp
        simp only [resolve, invoke, builtin, Sem.run_bind, Sem.run_pure, Result.andThen_ok, List.map_toArray, List.map_cons, List.map_nil, hx, hrun]
        exact ⟨hG2, rfl⟩
      dsimp only [setS, List.set]
      repeat
        first | apply wpG_c rfl | apply wpG_gc rfl (guard_mk rfl rfl)
        focus
          intro L ev wx hG hL hM hx
          (try simp [Op.operands, Call.operands, opndS, Slot.holds] at hx)
          obtain ⟨k0, k1⟩ := HC.out wx hG.or; have hGi := fun (i : Nat) (h : i ≠ 2) (h' : i ≠ 3) => GAp.same hG h h'
          go_simp
          try (first | exact ⟨hG, rfl⟩ | (exact ⟨hGi _ (by decide) (by decide), rfl⟩))
          done
        dsimp only [setS, List.set]
      refine wpG_nil (HQ _ fun w5 hG5 => ?_)
      have hG5' : w5 = WA := (hG5.2.1 rfl).2
      subst hG5'
      simp only [closeS, List.drop_succ_cons, List.drop_zero]
      clear HQ hG5 HRUN
      have hss := HSZ.out
      have HBS := hide (show g + 1 ≤ w5.heap.size by have := (ownG_lt HOWN.out rfl); omega)
      go_wp2_with (at_builtin; first
        | (refine Lib.wpList_append_own_string _ rfl (.tmp 41) (.tmp 43) 80 9 rfl (g + 1) 5 i2 Tryz.underlying80 Tryz.underlying9 hi2 hz0 hz1 hz2 (.slice (some ⟨gS, 0, none⟩) (m4 + 1) cS) (m4 + 1) (xs ++ [.int .u8 40]) rfl HOWN.out S rfl (by simp only [maxLen]; omega) (by omega) HBS.out ?_; intro v2 w6 hown2 hg2 hnil2; obtain ⟨gT, cT, hv, hcc, hgb, hgl⟩ := ownG_pos hown2 (by omega); subst hv; have HG := hide (HI4.out.outG2 HB4x.out HGR.out HOWN.out hg2 hown2 (by rw [HSC.out]; exact by_str (by_app HI4.out.by_ 40 rfl) xl)); have hbx : Blk w6 g [.slice ao m4 co, .slice ap n3 cp4, .int .i64 (k3 : Int)] 82 := Blk.grown (Blk.grown ((Blk.drew HI4.out.bx).below HB4.out) HGR.out (fun e => by have := (ownG_lt HI4.out.out e).1; omega)) hg2 (fun e => by have := (ownG_lt HOWN.out e).1; omega); have q0 := hbx.cell (k := 0) rfl; have q1 := hbx.fr 0; have p1 := Blk.cell HG.out.1.bx (k := 1) rfl; have k2 := Blk.cell (HG.out.2.r gn _ _ HNE.out (by decide) (by decide) HBL4.out) (k := 2) rfl; clear hown2 hg2 hnil2 hcc hgb hgl hbx)
        | (go_loud (obtain ⟨w7, hw7⟩ : ∃ w7, w7 = w6.setCell ⟨g, 0, none⟩ (.slice (some ⟨gT, 0, none⟩) (m4 + 1 + S.size) cT) := ⟨_, rfl⟩; have hsz7 : w7.heap.size = w6.heap.size := (by rw [hw7]; simp [World.setCell]); rw [← hw7] at HG ⊢; clear hw7 q0 q1 p1 k2; have HF7 := hide (HF4.out.trans HG.out.2); have HBL7 := hide (HG.out.2.r gn _ _ HNE.out (by decide) (by decide) HBL4.out); have HI7 := hide HG.out.1; clear HG; have hrl := rd_lit w7 #[.int .i64 xe] 3 (0, 0); rw [hsz7] at hrl; have HRL := hide hrl; clear hrl; have HB := hide (bl_alloc (bl_refl w7) (.cells #[.int .i64 xe] 3 (0, 0))); have HOA := hide (ownG_below HI7.out.opn HB.out); have HSA := hide (show g + 1 ≤ (w7.alloc (.cells #[.int .i64 xe] 3 (0, 0))).heap.size by have := HI7.out.bx.lt; have := HB.out.size; omega); refine wpList_append_rd _ rfl (.tmp 47) (.tmp 50) 27 rfl (g + 1) 3 i3 _ 1 8 Tryz.underlying27 hi3 hy0 hy1 hy2 rfl (by decide) (.slice ap n3 cp4) n3 (op.map iv) rfl HOA.out (some ⟨w6.heap.size, 0, none⟩) 1 1 [.int .i64 xe] rfl rfl HRL.out (by intro u hu; simp at hu; subst hu; rfl) (by simp only [maxLen]; omega) (by omega) HSA.out ?_; intro v3 w8 hown hg1 hat1; obtain ⟨gU, cU, hv, hcc, hgb, hgl⟩ := ownG_pos hown (by omega); subst hv; have HG := hide (HI7.out.opnG (op' := op ++ [xe]) HB.out hg1 (by rw [List.map_append]; exact hown) (by have := HI7.out.len; simp [this])); have hbx : Blk w8 g [.slice (some ⟨gT, 0, none⟩) (m4 + 1 + S.size) cT, .slice ap n3 cp4, .int .i64 (k3 : Int)] 82 := Blk.grown (HI7.out.below HB.out).bx hg1 (fun e => by have := (ownG_lt HI7.out.opn e).1; omega); have q0 := hbx.cell (k := 1) rfl; have q1 := hbx.fr 1; clear hown hg1 hat1 hcc hgb hgl hbx)))
      have HF8 := hide (HF7.out.trans HG.out.2)
      have HS8 : Hid (WrS _ g _ _ _) := hide ⟨_, _, _, _, _, _, HG.out.1⟩
      go_roundw
      case rel => exact ⟨k + 1, m4 + 1 + S.size, n3 + 1, k3, by go_num, by omega, by omega, by omega, HS8, HF8⟩
      case measure => simp [intOf]; omega
    · obtain rfl : k = n := by omega
      have hki : ¬ (k : Int) < (k : Int) := by omega
      have HTK : Hid (∀ wx, WrS wx g m nn (kk : Int) → Calls Tryz.prog 31 #[.pointer (some ⟨g, 0, none⟩), .int .i64 (t : Int)] wx (WtP g m nn kk t wx)) := hide (fun wx hx => wtokens_any g m nn kk t wx hx (by omega) (by omega))
      go_wp2_with fail
      refine (HTK.out _ HS.out).mono ?_
      rintro e w3 ⟨rfl, m3, n3, k3, hk31, hk32, hp3, hs3, hf3⟩
      have HB3 := hide (HBr.out.trans ((hf3.b.mono HG.out.1)))
      obtain ⟨ao, co, ap, cp4, xs, op, hI⟩ := hs3
      have r0 := Blk.cell hI.bx (k := 0) rfl
      obtain ⟨ls, hls⟩ := by_list hI.by_
      obtain ⟨e1, a2, c2, hv, hcc, hrd, e2, e3⟩ := own_form hI.out
      injection hv with hv1 _ hv2
      subst hv1 hv2
      subst hls
      have k1 := run_bytes_str (P := Tryz.prog) w3 80 9 5 ao m3 co ls Tryz.underlying80 Tryz.underlying5 Tryz.underlying9 (by simpa using e1) hrd
      clear hI hcc hrd e2 e3 e1 hf3
      go_wp2
      go_ret2
      exact ⟨_, rfl, HB3.out⟩
end Go.Proofs.YtbpkclopcoaikaaGreatDoor
