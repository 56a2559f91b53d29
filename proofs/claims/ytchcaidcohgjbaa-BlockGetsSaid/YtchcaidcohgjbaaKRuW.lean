/- The walk of the reference's Unpack. -/
import Derived.Test.YtchcaidcohgjbaaKRuM
import Derived.Test.YtchcaidcohgjbaaSlc
namespace Go.Proofs.Ytchcaidcohgjbaa
open Go.RowKit
set_option linter.unusedVariables false
set_option linter.unusedSimpArgs false
theorem bstr_beq (l k : List UInt8) : (bstr l == bstr k) = (l == k) := by
  show (l.toArray == k.toArray) = _
  simp
theorem bstr_bne (l k : List UInt8) : (bstr l != bstr k) = !(l == k) := congrArg (fun x => !x) (bstr_beq l k)
def u64v (x : Nat) : Value := .int .u64 (x : Int)
def uRow (l : List Nat) : List Value := l.map u64v ++ List.replicate (3 - l.length) (u64v 0)
theorem uRow_set (l : List Nat) (v : Nat) (h : l.length < 3) : (uRow l).set l.length (u64v v) = uRow (l ++ [v]) := by
  unfold uRow
  rw [List.set_append_right _ _ (by simp), List.length_map, Nat.sub_self, show 3 - l.length = (2 - l.length) + 1 by omega, List.replicate_succ, List.set_cons_zero, List.map_append, List.append_assoc, List.length_append, List.length_singleton, show 3 - (l.length + 1) = 2 - l.length by omega]
  rfl
def RuRes (base : Nat) (o : Option (List Nat)) (e : Ending) (w : World) : Prop :=
  match o with
  | none => e = .returned (.tuple #[.slice none 0 0, .bool false])
  | some vs => ∃ v, e = .returned (.tuple #[v, .bool true]) ∧ w.ownsRow base 3 1 v vs.length (vs.map nv)
theorem decK_bad {hl : Nat → Nat} {b : List UInt8} {k : Nat} (hk : k ≤ 3) (h : numsR k b = none) : decK hl b = none := by
  rw [decK_nums, numsR_none 3 k b hk h]
/-- A drawn region whose operation 6 stores. -/
def GS (W : World) (p : Addr) (v : Value) : (Nat → Bool) → World → Prop := fun L w => (L 6 = false → w = W) ∧ (L 6 = true → w = W.setCell p v)
theorem GS.same {W : World} {p : Addr} {v : Value} {L : Nat → Bool} {w : World} (h : GS W p v L w) {i : Nat} (hi : i ≠ 6) : GS W p v (upL L i) w := by
  unfold GS upL at *
  rw [if_neg (Ne.symm hi)]
  exact h
theorem GS.store {W : World} {p : Addr} {v : Value} {L : Nat → Bool} {w : World} (h : GS W p v L w) (h6 : L 6 = false) : GS W p v (upL L 6) (w.setCell p v) := by
  unfold GS upL at *
  rw [if_pos rfl]
  exact ⟨fun e => (by cases e), fun _ => by rw [h.1 h6]⟩
set_option maxHeartbeats 8000000 in
set_option maxRecDepth 100000 in
theorem runpack_any (a : Option Addr) (n c : Nat) (b : List UInt8) (w : World) (hn : n = b.length) (hnc : n ≤ c) (hm : n ≤ 10000) (hcn : a = none → c = 0) (hr : BRd w a b) :
    Calls Try.prog 19 #[.slice a n c] w fun e w' => RuRes w.heap.size (blkOf hlR b) e w' ∧ Below w.heap.size w w' := by
  have HR := hide hr
  have HN := hide hn
  have HCN := hide hcn
  clear hr hn hcn
  go_enter Try.func19, Try.ntmps19
  go_wp2_with fail
  go_loopw [5, 26] (fun sv iv wr => ∃ (k : Nat) (l : List Nat) (r : List UInt8) (A : Option Addr) (m d : Nat), iv = .int .i64 (k : Int) ∧ k ≤ 3 ∧ sv = .slice A m d ∧ Hid (numsR k b = some (l, r)) ∧ Hid (l.length = k) ∧ Hid (m = r.length) ∧ m ≤ d ∧ m ≤ 10000 ∧ Hid (A = none → d = 0) ∧ Hid (BRd w A r) ∧ Hid (wr.ownsRow w.heap.size 59 1 (.slice (some ⟨w.heap.size, 0, none⟩) 3 3) 3 (uRow l)) ∧ Hid (Below w.heap.size w wr)) (fun _ iv _ => 3 - (intOf iv).toNat)
  case atStart =>
    exact ⟨0, [], b, a, n, c, rfl, by omega, rfl, hide rfl, hide rfl, HN, hnc, hm, HCN, HR, hide ⟨rfl, .inr ⟨w.heap.size, 3, _, rfl, Nat.le_refl _, heap_alloc_new w _, Nat.le_refl _, by decide, rfl, rfl⟩⟩, hide (bl_alloc (bl_refl w) _)⟩
  case round =>
    obtain ⟨k, l, r, A, m, d, rfl, hk, rfl, HNU, HLK, HM, hmd, hm4, HAD, HRD, HO, HB⟩ := hrel
    by_cases hlt : k < 3
    · have hki : (k : Int) < 3 := by omega
      have HST := hide (numsR_step HNU.out)
      have hdl : (dec 0 0 r).2.1 ≤ m := by rw [HM.out]; have := dec_le r 0 0; omega
      go_wp2_with fail
      refine (take_any A m d r wr HM.out (by omega) (Rd.below HRD.out HB.out)).mono ?_
      rintro e w' ⟨rfl, rfl⟩
      unfold decV
      obtain ⟨v, q, er, hd⟩ : ∃ v q er, dec 0 0 r = (v, q, er) := ⟨_, _, _, rfl⟩
      rw [hd] at HST hdl ⊢
      simp only at HST hdl ⊢
      clear hd
      by_cases h1 : er = 0
      case neg =>
        have HNO := hide (blkOf_none (decK_bad (hl := hlR) (k := k + 1) (by omega) (HST.out.trans (if_pos (.inl h1)))))
        have t1 : ((er : Int) != 0) = true := by rw [bne_iff_ne]; omega
        clear h1
        go_wp2
        go_ret2
        rw [HNO.out]
        exact ⟨rfl, HB.out⟩
      have t1 : ((er : Int) != 0) = false := by simp [h1]
      by_cases h2 : 128 < v
      · have HNO := hide (blkOf_none (decK_bad (hl := hlR) (k := k + 1) (by omega) (HST.out.trans (if_pos (.inr h2)))))
        have t2 : (128 : Int) < (v : Int) := by omega
        clear h1
        go_wp2
        go_ret2
        rw [HNO.out]
        exact ⟨rfl, HB.out⟩
      have t2 : ¬ (128 : Int) < (v : Int) := by omega
      have HNX := hide (HST.out.trans (if_neg (fun h => h.elim (fun h => h h1) h2)))
      have hqd : (q : Int) ≤ (d : Int) := by omega
      have hqm : (q : Int) ≤ (m : Int) := by omega
      clear h1 h2 HST
      by_cases hdq : d = q
      ·
        go_wp2_with fail
        obtain ⟨⟨v3, _, m3⟩, f3⟩ := own_at HO.out hlt
        have m3d : wr.drew.cell? ⟨w.heap.size, k, none⟩ = some v3 := m3
        have f3d : wr.drew.frozen? ⟨w.heap.size, k, none⟩ = false := f3
        have HSETx := hide (show (wr.drew.setCell ⟨w.heap.size, k, none⟩ (.int .u64 (v : Int))).ownsRow w.heap.size 59 1 (.slice (some ⟨w.heap.size, 0, none⟩) 3 3) 3 (uRow (l ++ [v])) by
          rw [← uRow_set l v (by rw [HLK.out]; exact hlt), HLK.out]
          exact own_set (show wr.drew.ownsRow _ _ _ _ _ _ from HO.out) hlt (u64v v))
        have HBx := hide (bl_set (bl_drew HB.out) (p := ⟨w.heap.size, k, none⟩) (Nat.le_refl _) (.int .u64 (v : Int)))
        clear m3 f3
        refine wp_region_G 7 (GS wr.drew ⟨w.heap.size, k, none⟩ (.int .u64 (v : Int))) (by kernel_rfl) (by kernel_rfl) ⟨fun _ => rfl, fun h => by cases h⟩ (fun Q HQ => ?_)
        simp only [List.take_succ_cons, List.take_zero, List.map_cons, List.map_nil]
        repeat
          first | apply wpG_c rfl | apply wpG_gc rfl (guard_mk rfl rfl)
          focus
            intro L ev wx hG hL hM hx
            (try simp [Op.operands, Call.operands, opndS, Slot.holds] at hx)
            have hGi := fun (i : Nat) (h : i ≠ 6) => GS.same hG h
            go_simp
            try (first | exact ⟨hG, rfl⟩ | (exact ⟨hGi _ (by decide), rfl⟩))
            done
          dsimp only [setS, List.set]
        apply wpG_c rfl
        focus
          intro L ev wx hG hL hM hx
          have hGs := GS.store hG hL
          obtain rfl := hG.1 hL
          (try simp [Op.operands, Call.operands, opndS, Slot.holds] at hx)
          go_simp
          exact ⟨hGs, rfl⟩
        dsimp only [setS, List.set]
        refine wpG_nil (HQ _ fun w3 hG3 => ?_)
        obtain rfl := hG3.2 rfl
        simp only [closeS, List.drop_succ_cons, List.drop_zero]
        clear HQ
        go_wp2
        go_roundw
        case rel =>
          have hr0 : r.drop q = [] := List.drop_eq_nil_of_le (by rw [← HM.out]; omega)
          exact ⟨k + 1, l ++ [v], r.drop q, A, _, _, by go_num, by omega, rfl, HNX, hide (by rw [List.length_append, HLK.out]; rfl), hide (by rw [hr0]; simp; omega), by omega, by omega, hide (fun h => rfl), hide (by rw [hr0]; exact .inl rfl), HSETx, HBx⟩
        case measure => simp [intOf]; omega
      ·
        go_wp2_with fail
        obtain ⟨⟨v3, _, m3⟩, f3⟩ := own_at HO.out hlt
        have m3d : wr.drew.cell? ⟨w.heap.size, k, none⟩ = some v3 := m3
        have f3d : wr.drew.frozen? ⟨w.heap.size, k, none⟩ = false := f3
        have HSETx := hide (show (wr.drew.setCell ⟨w.heap.size, k, none⟩ (.int .u64 (v : Int))).ownsRow w.heap.size 59 1 (.slice (some ⟨w.heap.size, 0, none⟩) 3 3) 3 (uRow (l ++ [v])) by
          rw [← uRow_set l v (by rw [HLK.out]; exact hlt), HLK.out]
          exact own_set (show wr.drew.ownsRow _ _ _ _ _ _ from HO.out) hlt (u64v v))
        have HBx := hide (bl_set (bl_drew HB.out) (p := ⟨w.heap.size, k, none⟩) (Nat.le_refl _) (.int .u64 (v : Int)))
        clear m3 f3
        refine wp_region_G 7 (GS wr.drew ⟨w.heap.size, k, none⟩ (.int .u64 (v : Int))) (by kernel_rfl) (by kernel_rfl) ⟨fun _ => rfl, fun h => by cases h⟩ (fun Q HQ => ?_)
        simp only [List.take_succ_cons, List.take_zero, List.map_cons, List.map_nil]
        repeat
          first | apply wpG_c rfl | apply wpG_gc rfl (guard_mk rfl rfl)
          focus
            intro L ev wx hG hL hM hx
            (try simp [Op.operands, Call.operands, opndS, Slot.holds] at hx)
            have hGi := fun (i : Nat) (h : i ≠ 6) => GS.same hG h
            go_simp
            try (first | exact ⟨hG, rfl⟩ | (exact ⟨hGi _ (by decide), rfl⟩))
            done
          dsimp only [setS, List.set]
        apply wpG_c rfl
        focus
          intro L ev wx hG hL hM hx
          have hGs := GS.store hG hL
          obtain rfl := hG.1 hL
          (try simp [Op.operands, Call.operands, opndS, Slot.holds] at hx)
          go_simp
          exact ⟨hGs, rfl⟩
        dsimp only [setS, List.set]
        refine wpG_nil (HQ _ fun w3 hG3 => ?_)
        obtain rfl := hG3.2 rfl
        simp only [closeS, List.drop_succ_cons, List.drop_zero]
        clear HQ
        go_wp2
        go_roundw
        case rel =>
          have hrd := rd_part HRD.out q d (fun e => absurd e hdq)
          rw [if_neg hdq, ← List.map_drop, Nat.mul_one] at hrd
          exact ⟨k + 1, l ++ [v], r.drop q, _, _, _, by go_num, by omega, rfl, HNX, hide (by rw [List.length_append, HLK.out]; rfl), hide (by rw [List.length_drop, ← HM.out]), by omega, by omega, hide (fun h => by have := HAD.out (by simpa using h); omega), hide hrd, HSETx, HBx⟩
        case measure => simp [intOf]; omega
    · obtain rfl : k = 3 := by omega
      obtain ⟨N, W, C, rfl⟩ : ∃ N W C, l = [N, W, C] := by
        match l, HLK.out with
        | [x, y, z], _ => exact ⟨x, y, z, rfl⟩
      have HNS := numsR_some 3 b _ _ HNU.out
      have hN : N ≤ 128 := HNS.2.1 N (by simp)
      have hW8 : W ≤ 128 := HNS.2.1 W (by simp)
      have hC : C ≤ 128 := HNS.2.1 C (by simp)
      have HDK : Hid (decK hlR b = if 31 < W ∨ r.length < nby (N * W) then none else excD (hlR W) W C 0 (lowsD (r.take (nby (N * W))) N W) (r.drop (nby (N * W)))) := hide (by rw [decK_nums, HNU.out])
      obtain ⟨mm, hmm⟩ : ∃ mm, mm = N * W := ⟨_, rfl⟩
      have em : (N : Int) * (W : Int) = (mm : Int) := by rw [hmm]; simp
      have m1 : mm ≤ 128 * 128 := by rw [hmm]; exact Nat.mul_le_mul hN hW8
      obtain ⟨S, hS⟩ : ∃ S, S = nby mm := ⟨_, rfl⟩
      have es : ((mm : Int) + 7) / 8 = (S : Int) := by rw [hS]; unfold nby; omega
      have s8 : mm ≤ 8 * S := by rw [hS]; unfold nby; omega
      have s1 : S ≤ 3000 := by rw [hS]; unfold nby; omega
      rw [← hmm, ← hS, ← HM.out] at HDK
      have HMM := hide hmm
      have HSS := hide hS
      have r0 : wr.cell? ⟨w.heap.size, 0, none⟩ = some (.int .u64 (N : Int)) := by
        obtain ⟨⟨v, h1, h2⟩, _⟩ := own_at HO.out (show 0 < 3 by omega)
        rw [h2]; exact h1.symm
      have r1 : wr.cell? ⟨w.heap.size, 1, none⟩ = some (.int .u64 (W : Int)) := by
        obtain ⟨⟨v, h1, h2⟩, _⟩ := own_at HO.out (show 1 < 3 by omega)
        rw [h2]; exact h1.symm
      clear HNS hmm hS HNU hlt hk HLK
      go_wp2_with fail
      refine wp_region_K 8 (by kernel_rfl) (by kernel_rfl) (fun Q HQ => ?_)
      simp only [List.take_succ_cons, List.take_zero, List.map_cons, List.map_nil]
      repeat
        first | apply wpS_c rfl | apply wpS_gc rfl (guard_mk rfl rfl)
        focus
          intro ev wx hC hx
          (try simp [Op.operands, Call.operands, opndS, Slot.holds] at hx)
          have e0 : wx.cell? _ = _ := CB.cell hC (W0 := wr.drew) r0
          have e1 : wx.cell? _ = _ := CB.cell hC (W0 := wr.drew) r1
          go_simp
          try (first | exact rfl | exact ⟨Below.refl _ _, rfl⟩)
          done
        dsimp only [setS, List.set]
      refine wpS_nil (HQ _ fun w1 hC1 => ?_)
      simp only [closeS, List.drop_succ_cons, List.drop_zero]
      clear HQ r0 r1
      have HB1 := hide (HB.out.trans (hC1.below.mono HB.out.size))
      have HO1 := hide (own_below HO.out hC1.below)
      clear hC1 HO HB
      by_cases hW : 31 < W
      · have HNO := hide (blkOf_none (HDK.out.trans (if_pos (.inl hW))))
        have t1 : (31 : Int) < (W : Int) := by omega
        go_wp2
        go_ret2
        rw [HNO.out]
        exact ⟨rfl, HB1.out⟩
      have t1 : ¬ (31 : Int) < (W : Int) := by omega
      by_cases hlen : m < S
      · have HNO := hide (blkOf_none (HDK.out.trans (if_pos (.inr hlen))))
        have t2 : (m : Int) < (S : Int) := by omega
        go_wp2
        go_ret2
        rw [HNO.out]
        exact ⟨rfl, HB1.out⟩
      have t2 : ¬ (m : Int) < (S : Int) := by omega
      have HD2 := hide (HDK.out.trans (if_neg (fun h => h.elim hW hlen)))
      have hW31 : W ≤ 31 := by omega
      have hSm : S ≤ m := by omega
      clear HDK hW hlen hW8
      go_wp2_with fail
      refine (unpack_ref A m d r _ mm w1 rfl HM.out (by omega) (by omega) (Rd.below HRD.out HB1.out)).mono ?_
      rintro e w2 ⟨vB, rfl, ho2, hb2⟩
      obtain ⟨y1, AB, cB, rfl, hcB, rB, y4, y5⟩ := own_form ho2
      have HBT := hide rB
      have HB2 := hide (HB1.out.trans (hb2.mono HB1.out.size))
      have HO2 := hide (own_below HO1.out hb2)
      have s12 : w1.heap.size ≤ w2.heap.size := hb2.size
      have HAB : Hid (∀ b, AB = some b → b.block < w2.heap.size ∧ w1.heap.size ≤ b.block) := hide fun b hb => by subst hb; have := ho2.lt b.block rfl; omega
      clear y1 rB y4 y5 ho2 hb2
      obtain ⟨i0, hi0, hz0, hz1, hz2⟩ := info_parts info_u8
      obtain ⟨i2, hi2, hq0, hq1, hq2⟩ := info_parts info_int
      go_wp2_with (first | ((refine wpList_slice_lo rfl (.tmp 72) (.tmp 73) 28 rfl Try.underlying28 i0 hi0 hz1 A m d S .i64 _ rfl rfl rfl hSm hmd HAD.out (r.map u8v) (Rd.below HRD.out HB2.out) (by rw [List.length_map]; exact HM.out.symm) ?_); intro A2 d2 hrd2 hd2 hd2b hn2 hp2; have HRD2 := hide (rd_back hrd2 hp2 (show Rd w A (r.map u8v) from HRD.out) HB2.out); have HAD2 := hide hn2; clear hrd2 hn2 hp2) | (at_make; go_loud (refine wpList_make_full _ rfl (.tmp 75) (.tmp 75) 22 rfl w2.heap.size 3 i2 _ 1 Try.underlying22 hi2 hq0 hq1 .i64 .i64 _ _ N rfl rfl rfl rfl (by rw [hq2]; omega) (by simp only [maxLen]; omega) (Nat.le_refl _) ?_); intro w3 hown hg1; rw [made_one _ rfl] at hown; have hb3 : Below w2.heap.size w2 w3 := bl_grown (bl_refl w2) hg1 (fun k h => by cases h); have HO3 := hide hown; clear hown hg1))
      obtain ⟨gv, hgv⟩ : ∃ gv, gv = w2.heap.size := ⟨_, rfl⟩
      obtain ⟨f, hfd⟩ : ∃ f : Nat → Nat, f = fun i => takeM (unpackL r mm) (i * W) W := ⟨_, rfl⟩
      have HFD := hide hfd
      have HGV := hide hgv
      have HBW3 := hide hb3
      rw [← hgv] at HO3
      rw [← hgv]
      have hgw : w.heap.size < gv := by have := (HO2.out.lt w.heap.size rfl).2; omega
      have HLM := hide (show (unpackL r mm).length = mm from unpackL_length _ _)
      clear hfd hb3 hgv
      go_loopw [79] (fun iv wr => ∃ k : Nat, iv = .int .i64 (k : Int) ∧ k ≤ N ∧ Hid (wr.ownsRow w2.heap.size 3 1 (.slice (some ⟨gv, 0, none⟩) N N) N (rowN f k N)) ∧ Hid (Below w2.heap.size w2 wr)) (fun iv _ => N - (intOf iv).toNat)
      case atStart => exact ⟨0, rfl, Nat.zero_le _, hide (by rw [← HGV.out]; unfold rowN nv; simpa using HO3.out), HBW3⟩
      case round =>
        obtain ⟨k, rfl, hk, HOk, HBk⟩ := hrel
        by_cases hlt : k < N
        · have hkn : (k : Int) < (N : Int) := by omega
          obtain ⟨lo, hlo⟩ : ∃ lo, lo = k * W := ⟨_, rfl⟩
          have hle : lo + W ≤ mm := by
            rw [HMM.out, hlo, show k * W + W = (k + 1) * W by rw [Nat.add_mul]; omega]
            exact Nat.mul_le_mul_right _ hlt
          have e1 : (k : Int) * (W : Int) = (lo : Int) := by rw [hlo]; simp
          have e2 : ((k : Int) + 1) * (W : Int) = ((lo + W : Nat) : Int) := by rw [hlo, Int.add_mul]; simp
          have HLO := hide hlo
          have HBB := hide (HBT.out.below HBk.out)
          have LBT := hide (show ((unpackL r mm).map Value.bool).length = mm by rw [List.length_map]; exact HLM.out)
          obtain ⟨i1, hi1, hy0, hy1, hy2⟩ := info_parts info_bool
          clear hlo
          have hWW : lo + W - lo = W := by omega
          generalize wr = wA at *
          go_wp2_with (refine wpList_slice_lh rfl (.tmp 82) (.tmp 85) (.tmp 89) 49 rfl Try.underlying49 i1 hi1 hy1 AB mm cB lo (lo + W) .i64 .i64 _ _ rfl rfl rfl rfl rfl (by omega) hle hcB ((unpackL r mm).map Value.bool) HBB.out LBT.out ?_; intro A3 d3 hrd3 hd3 hp3; have HRD3 := hide hrd3; have HP3 := hide hp3; clear hrd3 hp3)
          obtain ⟨Lb, hLb⟩ : ∃ Lb, Lb = (unpackL r mm).drop lo := ⟨_, rfl⟩
          have HLb := hide hLb
          have HRW := hide (show Rd wA A3 ((Lb.take W).map Value.bool) by
            have := HRD3.out
            rw [List.drop_take, hWW, ← List.map_drop, ← hLb, ← List.map_take] at this
            exact this)
          have hLbl : W ≤ Lb.length := by rw [hLb, List.length_drop, HLM.out]; omega
          have HFK := hide (show f k = numB (Lb.take W) by rw [HFD.out]; show takeM _ (k * W) W = _; unfold takeM; rw [← HLO.out, hLb])
          have HA3 : Hid (∀ b, A3 = some b → b.block < gv ∨ Lb.take W = []) := hide fun b hb => by
            obtain ⟨b0, e1, e2⟩ := HP3.out b hb
            left
            have := (HAB.out b0 e1).1
            rw [e2, HGV.out]; exact this
          have HR0 := hide (show (rowN f k N).set k (nv (numB (Lb.take 0))) = rowN f k N by
            unfold rowN
            rw [List.set_append_right _ _ (by simp), List.length_map, List.length_range, Nat.sub_self, show N - k = (N - k - 1) + 1 by omega, List.replicate_succ, List.set_cons_zero]
            simp [numB, numF])
          clear hLb HRD3 HP3
          go_loopw [92] (fun jv wr => ∃ j : Nat, jv = .int .i64 (j : Int) ∧ j ≤ W ∧ Hid (wr.ownsRow w2.heap.size 3 1 (.slice (some ⟨gv, 0, none⟩) N N) N ((rowN f k N).set k (nv (numB (Lb.take j))))) ∧ Hid (Below w2.heap.size w2 wr) ∧ Hid (Rd wr A3 ((Lb.take W).map Value.bool))) (fun jv _ => W - (intOf jv).toNat)
          case atStart => exact ⟨0, rfl, Nat.zero_le _, hide (by rw [HR0.out]; exact HOk.out), HBk, HRW⟩
          case round =>
            obtain ⟨j, rfl, hj, HOj, HBj, HRj⟩ := hrel
            by_cases hjlt : j < W
            · have hji : (j : Int) < (W : Int) := by omega
              obtain ⟨x, hx⟩ : ∃ x, Lb[j]? = some x := ⟨_, List.getElem?_eq_getElem (by omega)⟩
              obtain ⟨b', o', rfl, hbl, e0⟩ := HRj.out.at_ (k := j) (v := .bool x) (by rw [List.getElem?_map, List.getElem?_take, if_pos hjlt, hx]; rfl)
              obtain ⟨y, hy⟩ : ∃ y, y = numB (Lb.take j) := ⟨_, rfl⟩
              have hyb : y < 2 ^ 31 := by
                rw [hy]
                exact Nat.lt_of_lt_of_le (numB_lt _) (Nat.pow_le_pow_right (by decide) (by simp; omega))
              have HNX := hide (show numB (Lb.take (j + 1)) = 2 * y + x.toNat by rw [take_snoc _ _ _ hx, numB_snoc, hy])
              obtain ⟨⟨v1, hv1, m1'⟩, f1⟩ := own_at HOj.out hlt
              rw [List.getElem?_set_self (by rw [show (rowN f k N).length = N by simp [rowN]; omega]; exact hlt)] at hv1
              obtain rfl := Option.some.inj hv1
              rw [← hy] at m1'
              have m1 : wr.cell? ⟨gv, k, none⟩ = some (.int .i64 (y : Int)) := m1'
              obtain ⟨z, hz⟩ : ∃ z, z = 2 * y := ⟨_, rfl⟩
              have e5 : (y : Int) * 2 = (z : Int) := by omega
              have HS1 := hide (own_set HOj.out hlt (.int .i64 (z : Int)))
              obtain ⟨⟨v2, hv2, m2'⟩, f2⟩ := own_at HS1.out hlt
              rw [List.set_set, List.getElem?_set_self (by rw [show (rowN f k N).length = N by simp [rowN]; omega]; exact hlt)] at hv2
              obtain rfl := Option.some.inj hv2
              have HS2 := hide (own_set HS1.out hlt (.int .i64 ((z : Int) + 1)))
              have hneg : b' ≠ gv ∨ Lb.take W = [] := (HA3.out _ rfl).imp (fun h => by have h : b' < gv := h; omega) id
              have hne : b' ≠ gv := hneg.resolve_right (fun h => by
                have : (Lb.take W).length = 0 := by rw [h]; rfl
                rw [List.length_take] at this; omega)
              have HB1j := hide (bl_set HBj.out (p := ⟨gv, k, none⟩) (by rw [← HGV.out]; exact Nat.le_refl _) (.int .i64 (z : Int)))
              have HB2j := hide (bl_set HB1j.out (p := ⟨gv, k, none⟩) (by rw [← HGV.out]; exact Nat.le_refl _) (.int .i64 ((z : Int) + 1)))
              have HR1j := hide (Rd.grown HRj.out (grown_set wr gv k (.int .i64 (z : Int))) (fun b hb e => by injection hb with hb; subst hb; injection e with e; exact hne e))
              have HR2j := hide (Rd.grown HR1j.out (grown_set _ gv k (.int .i64 ((z : Int) + 1))) (fun b hb e => by injection hb with hb; subst hb; injection e with e; exact hne e))
              rw [← hz] at HNX
              have HZ := hide hz
              clear hx hy hv1 m1' hv2 hneg hz
              cases x with
              | false =>
                go_wp2
                go_roundw
                case rel => exact ⟨j + 1, by go_num, by omega, hide (by rw [HNX.out]; have := HS1.out; rw [List.set_set] at this; exact this), HB1j, HR1j⟩
                case measure => simp [intOf]; omega
              | true =>
                go_wp2
                go_roundw
                case rel => exact ⟨j + 1, by go_num, by omega, hide (by rw [HNX.out]; have := HS2.out; rw [List.set_set, List.set_set] at this; exact this), HB2j, HR2j⟩
                case measure => simp [intOf]; omega
            · obtain rfl : j = W := by omega
              go_wp2
              go_roundw
              case rel => exact ⟨k + 1, by go_num, by omega, hide (by have := HOj.out; rw [← HFK.out, rowN_set f k N hlt] at this; exact this), HBj⟩
              case measure => simp [intOf]; omega
        · obtain rfl : k = N := by omega
          have HOV := hide (show wr.ownsRow w2.heap.size 3 1 (.slice (some ⟨gv, 0, none⟩) k k) k ((lowsD (r.take S) k W).map nv) by
            have h := HOk.out
            rw [rowN_all, HFD.out] at h
            unfold lowsD
            rw [← HMM.out, unpack_take r mm S s8]
            exact h)
          obtain ⟨vs0, hvs0⟩ : ∃ vs0, vs0 = lowsD (r.take S) k W := ⟨_, rfl⟩
          have HV0 := hide (show vs0.length = k ∧ ∀ x ∈ vs0, x < 2 ^ 63 by
            rw [hvs0]
            exact ⟨lowsD_length _ _ _, fun x hx => Nat.lt_of_lt_of_le (lowsD_lt _ _ _ x hx) (Nat.pow_le_pow_right (by decide) (by omega))⟩)
          rw [← hvs0] at HOV HD2
          obtain ⟨H, hH⟩ : ∃ H, H = hlR W := ⟨_, rfl⟩
          have hHv : H = 2147483648 := hH
          rw [← hH] at HD2
          have HMS := hide (show m - S = (r.drop S).length by rw [List.length_drop, ← HM.out])
          have HRB : Hid (BRd w A2 (r.drop S)) := hide (by have := HRD2.out; rw [← List.map_drop] at this; exact this)
          clear hvs0 hH HOk hlt hk
          generalize wr = wA at *
          go_wp2_with fail
          go_loopw [5, 18, 19] (fun sv tv kv wr => ∃ (j at1 : Nat) (vs : List Nat) (rest : List UInt8) (A4 : Option Addr) (n4 d4 : Nat), kv = .int .u64 (j : Int) ∧ j ≤ C ∧ tv = .int .i64 ((at1 : Int) - 1) ∧ at1 ≤ k ∧ sv = .slice A4 n4 d4 ∧ Hid (n4 = rest.length) ∧ n4 ≤ d4 ∧ n4 ≤ 10000 ∧ Hid (A4 = none → d4 = 0) ∧ Hid (BRd w A4 rest) ∧ Hid (vs.length = k ∧ ∀ x ∈ vs, x < 2 ^ 63) ∧ Hid (decK hlR b = excD H W (C - j) at1 vs rest) ∧ Hid (wr.ownsRow w2.heap.size 3 1 (.slice (some ⟨gv, 0, none⟩) k k) k (vs.map nv)) ∧ Hid (Below w2.heap.size w2 wr)) (fun _ _ kv _ => C - (intOf kv).toNat)
          case atStart => exact ⟨0, 0, vs0, r.drop S, A2, m - S, d2, rfl, Nat.zero_le _, rfl, Nat.zero_le _, rfl, HMS, hd2, by omega, HAD2, HRB, HV0, HD2, HOV, HBk⟩
          case round =>
            obtain ⟨j, at1, vs, rest, A4, n4, d4, rfl, hj, rfl, hat1, rfl, HN4, hnd, hn4, HAD4, HRD4, HVS, HD, HO4, HB4⟩ := hrel
            have HBW := hide (HB2.out.trans (HB4.out.mono HB2.out.size))
            have r2 : wr.cell? ⟨w.heap.size, 2, none⟩ = some (.int .u64 (C : Int)) := by
              obtain ⟨⟨v, h1, h2⟩, _⟩ := own_at (own_below HO2.out HB4.out) (show 2 < 3 by omega)
              rw [h2]; exact h1.symm
            by_cases hlt : j < C
            · have hji : (j : Int) < (C : Int) := by omega
              have HDS := hide (HD.out.trans ((congrArg (fun c => excD H W c at1 vs rest) (show C - j = (C - (j + 1)) + 1 by omega)).trans (excR_step H W (C - (j + 1)) at1 vs rest)))
              have hq1 : (dec 0 0 rest).2.1 ≤ n4 := by have h1 := dec_le rest 0 0; have h2 := HN4.out; omega
              have hq2 : (dec 0 0 rest).2.1 + (dec 0 0 (rest.drop (dec 0 0 rest).2.1)).2.1 ≤ n4 := by
                have := dec_le (rest.drop (dec 0 0 rest).2.1) 0 0
                rw [List.length_drop] at this
                have := HN4.out
                omega
              go_wp2_with fail
              refine (take_any A4 n4 d4 rest wr HN4.out (by omega) (Rd.below HRD4.out HBW.out)).mono ?_
              rintro e w' ⟨rfl, rfl⟩
              unfold decV
              obtain ⟨g, q1, er1, hd1⟩ : ∃ v q er, dec 0 0 rest = (v, q, er) := ⟨_, _, _, rfl⟩
              rw [hd1] at HDS hq1 hq2 ⊢
              simp only at HDS hq1 hq2 ⊢
              clear hd1
              by_cases h1 : er1 = 0
              case neg =>
                have HNO := hide (blkOf_none (HDS.out.trans (if_pos (.inl (.inl h1)))))
                have t1' : ((er1 : Int) != 0) = true := by rw [bne_iff_ne]; omega
                clear h1
                go_wp2
                go_ret2
                rw [HNO.out]
                exact ⟨rfl, HBW.out⟩
              have t3 : ((er1 : Int) != 0) = false := by simp [h1]
              have HXL := hide (show (rest.map u8v).length = n4 by rw [List.length_map]; exact HN4.out.symm)
              go_wp2_with (refine wpList_slice_lo rfl (.tmp 126) (.tmp 127) 28 rfl Try.underlying28 i0 hi0 hz1 A4 n4 d4 q1 .i64 _ rfl rfl rfl hq1 hnd HAD4.out (rest.map u8v) (Rd.below HRD4.out HBW.out) HXL.out ?_; intro A5 d5 hrd5 hd5 hd5b hn5 hp5; have HRD5 := hide (show BRd wr A5 (rest.drop q1) from by rw [← List.map_drop] at hrd5; exact hrd5); clear hrd5 hn5 hp5)
              refine (take_any A5 (n4 - q1) d5 (rest.drop q1) wr (by rw [List.length_drop, ← HN4.out]) (by omega) HRD5.out).mono ?_
              rintro e w' ⟨rfl, rfl⟩
              unfold decV
              obtain ⟨h, q2, er2, hd2'⟩ : ∃ v q er, dec 0 0 (rest.drop q1) = (v, q, er) := ⟨_, _, _, rfl⟩
              rw [hd2'] at HDS hq2 ⊢
              simp only at HDS hq2 ⊢
              clear hd2'
              by_cases h2 : er2 = 0
              case neg =>
                have HNO := hide (blkOf_none (HDS.out.trans (if_pos (.inl (.inr (.inl h2))))))
                have t1' : ((er2 : Int) != 0) = true := by rw [bne_iff_ne]; omega
                clear h2 h1
                go_wp2
                go_ret2
                rw [HNO.out]
                exact ⟨rfl, HBW.out⟩
              have t4 : ((er2 : Int) != 0) = false := by simp [h2]
              by_cases h3 : 128 < g
              · have HNO := hide (blkOf_none (HDS.out.trans (if_pos (.inl (.inr (.inr h3))))))
                have t1' : (128 : Int) < (g : Int) := by omega
                clear h2 h1
                go_wp2
                go_ret2
                rw [HNO.out]
                exact ⟨rfl, HBW.out⟩
              have t5 : ¬ (128 : Int) < (g : Int) := by omega
              have eg : IntKind.i64.wrap (g : Int) = (g : Int) := by rw [IntKind.wrap_i64]; omega
              by_cases h4 : k < at1 + g
              · have HNO := hide (blkOf_none (HDS.out.trans (if_pos (.inr (.inl (by rw [HVS.out.1]; exact h4))))))
                have t1' : (k : Int) ≤ (at1 : Int) - 1 + g := by omega
                clear h2 h1
                go_wp2
                go_ret2
                rw [HNO.out]
                exact ⟨rfl, HBW.out⟩
              have t6 : ¬ (k : Int) ≤ (at1 : Int) - 1 + g := by omega
              by_cases h5 : at1 + g < 1
              · have HNO := hide (blkOf_none (HDS.out.trans (if_pos (.inr (.inr (.inl h5))))))
                have t1' : (at1 : Int) - 1 + g < 0 := by omega
                clear h2 h1
                go_wp2
                go_ret2
                rw [HNO.out]
                exact ⟨rfl, HBW.out⟩
              have t7 : ¬ (at1 : Int) - 1 + g < 0 := by omega
              by_cases h6 : H < h
              · have HNO := hide (blkOf_none (HDS.out.trans (if_pos (.inr (.inr (.inr h6))))))
                have t1' : (2147483648 : Int) < (h : Int) := by omega
                clear h2 h1
                go_wp2
                go_ret2
                rw [HNO.out]
                exact ⟨rfl, HBW.out⟩
              have t8 : ¬ (2147483648 : Int) < (h : Int) := by omega
              have HD5 := hide (HDS.out.trans (if_neg (fun hh => by
                rcases hh with (hh | hh | hh) | hh | hh | hh
                · exact hh h1
                · exact hh h2
                · exact h3 hh
                · rw [HVS.out.1] at hh; exact h4 hh
                · exact h5 hh
                · exact h6 hh)))
              have eh : IntKind.i64.wrap (h : Int) = (h : Int) := by rw [IntKind.wrap_i64]; omega
              obtain ⟨p, hp⟩ : ∃ p, p = at1 + g - 1 := ⟨_, rfl⟩
              have hpN : p < k := by omega
              have ep : (at1 : Int) - 1 + g = (p : Int) := by omega
              have hag : at1 + g = p + 1 := by omega
              rw [hag, show p + 1 - 1 = p by omega] at HD5
              obtain ⟨old, hold⟩ : ∃ old, old = vs.getD p 0 := ⟨_, rfl⟩
              have hvp : vs[p]? = some old := by
                rw [hold]
                have hpl : p < vs.length := by rw [HVS.out.1]; exact hpN
                simp [List.getD, hpl]
              have hold63 : old < 2 ^ 63 := HVS.out.2 old (List.mem_of_getElem? hvp)
              obtain ⟨⟨vq, hvq, mq⟩, mf⟩ := own_at HO4.out hpN
              have hvq2 : vq = .int .i64 (old : Int) := by
                rw [List.getElem?_map, hvp] at hvq
                exact (Option.some.inj hvq).symm
              rw [hvq2] at mq
              obtain ⟨X, hX⟩ : ∃ X, X = h * 2 ^ W := ⟨_, rfl⟩
              have hXb : X ≤ 2147483648 * 2147483648 := by
                rw [hX]
                exact Nat.mul_le_mul (by omega) (Nat.pow_le_pow_right (n := 2) (by decide) hW31)
              have eX : (h : Int) * 2 ^ W = (X : Int) := by rw [hX]; simp
              have eO : bits .or .i64 (old : Int) (X : Int) = ((old ||| X : Nat) : Int) := i64_bor old X (by omega) (by omega)
              have hor : old ||| X < 2 ^ 63 := Nat.or_lt_two_pow hold63 (by omega)
              rw [← hold, ← hX] at HD5
              obtain ⟨Z, hZ⟩ : ∃ Z, Z = old ||| X := ⟨_, rfl⟩
              rw [← hZ] at HD5 eO hor
              have eW : IntKind.i64.wrap (X : Int) = (X : Int) := by rw [IntKind.wrap_i64]; omega
              have HSET := hide (own_set HO4.out hpN (nv Z))
              have HVS2 : Hid ((vs.set p Z).length = k ∧ ∀ x ∈ vs.set p Z, x < 2 ^ 63) := hide ⟨by rw [List.length_set]; exact HVS.out.1, fun x hx => by
                rcases List.mem_or_eq_of_mem_set hx with hh | rfl
                · exact HVS.out.2 x hh
                · exact hor⟩
              have HB5 := hide (bl_set HB4.out (p := ⟨gv, p, none⟩) (by rw [← HGV.out]; exact Nat.le_refl _) (.int .i64 (Z : Int)))
              have HBW5 := hide (HB2.out.trans (HB5.out.mono HB2.out.size))
              have hpi : (p : Int) < (k : Int) := by omega
              obtain ⟨q12, hq12⟩ : ∃ q12, q12 = q1 + q2 := ⟨_, rfl⟩
              have HQ2 : Hid (q12 ≤ n4) := hide (by omega)
              have eq12 : (q1 : Int) + (q2 : Int) = (q12 : Int) := by omega
              rw [← hq12] at HD5
              clear hold hX hZ hvq hvq2 hvp h1 h2 h3 h4 h5 h6 HDS HD hq12 hp
              go_wp2_with (refine wpList_slice_lo rfl (.tmp 173) (.tmp 176) 28 rfl Try.underlying28 i0 hi0 hz1 A4 n4 d4 q12 .i64 _ rfl rfl rfl HQ2.out hnd HAD4.out (rest.map u8v) (Rd.below HRD4.out HBW5.out) HXL.out ?_; intro A6 d6 hrd6 hd6 hd6b hn6 hp6; have HRD6 := hide (show BRd w A6 (rest.drop q12) from by have := rd_back hrd6 hp6 (show Rd w A4 (rest.map u8v) from HRD4.out) HBW5.out; rw [← List.map_drop] at this; exact this); have HAD6 := hide hn6; clear hrd6 hn6 hp6)
              go_roundw
              case rel => exact ⟨j + 1, p + 1, vs.set p Z, rest.drop q12, A6, n4 - q12, d6, by go_num, by omega, i64_eq (by omega), by omega, rfl, hide (by rw [List.length_drop, ← HN4.out]), hd6, by omega, HAD6, HRD6, HVS2, HD5, hide (by rw [List.map_set]; exact HSET.out), HB5⟩
              case measure => simp [intOf]; omega
            · obtain rfl : j = C := by omega
              have HSM := hide (show decK hlR b = some vs from HD.out.trans (by rw [Nat.sub_self]; rfl))
              obtain ⟨y1, A9, c9, y0, y2, r9, y4, y5⟩ := own_form HO4.out
              injection y0 with e1 e2 e3
              have HI9 := hide (IsV.isI (show IsV wr (some ⟨gv, 0, none⟩) k vs from ⟨HVS.out.1.symm, by rw [e1]; exact r9⟩))
              have HBS := hide (blkOf_some HSM.out)
              have HNAT := hide (natsOf_of vs)
              clear y1 y2 r9 y4 y5 HD e1 e2 e3
              by_cases hck : chkV (vs.map Int.ofNat) = 0
              case neg =>
                have HNO := hide (HBS.out.trans (if_neg (fun h => hck h.1)))
                obtain ⟨cc, hcc⟩ : ∃ cc, cc = chkV (vs.map Int.ofNat) := ⟨_, rfl⟩
                have hc0 : (((cc : Nat) : Int) != 0) = true := by rw [bne_iff_ne]; omega
                have HCK := hide (fun (wx : World) (h : CB wr.drew wx) => show Calls Try.prog 10 #[.slice (some ⟨gv, 0, none⟩) k k] wx fun e w' => e = .returned (.int .i64 (cc : Int)) ∧ wx = w' by
                  rw [hcc]; exact rcheck_any _ k k _ wx (HI9.out.below h.below))
                clear hck hcc HBS
                go_wp2_with fail
                refine wp_region_K 11 (by kernel_rfl) (by kernel_rfl) (fun Q HQ => ?_)
                simp only [List.take_succ_cons, List.take_zero, List.map_cons, List.map_nil]
                repeat
                  first
                  | (refine wpS_skip (b := true) rfl (guard_mk rfl rfl) ?_)
                  | (refine wpS_skip (b := false) rfl (guard_mk rfl rfl) ?_)
                  | (first | apply wpS_c rfl | apply wpS_gc rfl (guard_mk rfl rfl)
                     focus
                       intro ev wx hC hx
                       (try simp [Op.operands, Call.operands, opndS, Slot.holds] at hx)
                       go_simp
                       try (first | exact rfl | exact ⟨Below.refl _ _, rfl⟩ | (go_at_call 10; refine (HCK.out _ hC).mono ?_; rintro e w' ⟨rfl, rfl⟩; exact ⟨rfl, bl_refl _⟩))
                       done)
                  dsimp only [setS, List.set]
                refine wpS_nil (HQ _ fun w5 hC5 => ?_)
                simp only [closeS, List.drop_succ_cons, List.drop_zero, List.drop_nil]
                clear HQ
                have HB5 := hide (HBW.out.trans (hC5.below.mono HBW.out.size))
                clear hC5
                go_wp2
                go_ret2
                rw [HNO.out]
                exact ⟨rfl, HB5.out⟩
              have HK := hide hck
              have HCK := hide (fun (wx : World) (h : CB wr.drew wx) => show Calls Try.prog 10 #[.slice (some ⟨gv, 0, none⟩) k k] wx fun e w' => e = .returned (.int .i64 0) ∧ wx = w' by
                have := rcheck_any (some ⟨gv, 0, none⟩) k k _ wx (HI9.out.below h.below)
                rw [hck] at this
                exact this)
              obtain ⟨P, hP⟩ : ∃ P, P = packM vs := ⟨_, rfl⟩
              have hbs := bstr_bne P b
              have k1 := fun (wx : World) (h : CB wr.drew wx) => run_bytes_str (P := Try.prog) wx 28 9 5 a n c b Try.underlying28 Try.underlying5 Try.underlying9 HN.out (Rd.below HR.out (HBW.out.trans (h.below.mono HBW.out.size)))
              have HP := hide hP
              have HV9 := hide (own_base HO4.out (show w.heap.size ≤ w2.heap.size from HB2.out.size))
              rw [← hP] at HBS
              have HEQ : Hid (∀ x : Bool, (P == b) = x → (x = true → blkOf hlR b = some vs) ∧ (x = false → blkOf hlR b = none)) := hide (fun x hx => by
                refine ⟨fun h => ?_, fun h => ?_⟩
                · rw [h] at hx
                  exact HBS.out.trans (if_pos ⟨hck, by simpa using hx⟩)
                · rw [h] at hx
                  exact HBS.out.trans (if_neg (fun h2 => by rw [beq_eq_false_iff_ne] at hx; exact hx h2.2)))
              clear hP hck HBS
              cases hx : (P == b) with
              | true =>
                have HRES := hide ((HEQ.out _ hx).1 rfl)
                rw [hx] at hbs
                have hbs2 : (bstr P != bstr b) = false := hbs
                have hbs3 : (bstr P == bstr b) = true := (bstr_beq P b).trans hx
                clear hbs
                go_wp2_with fail
                refine wp_region_K 11 (by kernel_rfl) (by kernel_rfl) (fun Q HQ => ?_)
                simp only [List.take_succ_cons, List.take_zero, List.map_cons, List.map_nil]
                repeat
                  first | apply wpS_c rfl | apply wpS_gc rfl (guard_mk rfl rfl)
                  focus
                    intro ev wx hC hx
                    (try simp [Op.operands, Call.operands, opndS, Slot.holds] at hx)
                    go_simp
                    try (first | exact rfl | exact ⟨Below.refl _ _, rfl⟩ | (go_at_call 10; refine (HCK.out _ hC).mono ?_; rintro e w' ⟨rfl, rfl⟩; exact ⟨rfl, bl_refl _⟩))
                    done
                  dsimp only [setS, List.set]
                refine wpS_gp (R := FreshRow w.heap.size 5 P.length (P.map u8v)) rfl (stab_fresh _ _ _ _) (guard_mk rfl rfl) ?_ ?_
                focus
                  intro ev wx hC hx
                  (try simp [Op.operands, Call.operands, opndS, Slot.holds] at hx)
                  go_simp
                  refine (rpack_any (some ⟨gv, 0, none⟩) k k _ wx (HI9.out.below hC.below) HK.out).mono ?_
                  rintro e w' ⟨v, rfl, hown, hb⟩
                  rw [HNAT.out, ← HP.out] at hown
                  have s1 := HBW.out.size
                  have s2 := hC.below.size
                  have s3 := hb.size
                  exact ⟨v, rfl, hb, by omega, own_base hown (by omega)⟩
                dsimp only [setS, List.set]
                refine wpS_gc rfl (guard_mk rfl rfl) (opS_str_fresh (.tmp 183) 28 9 5 rfl Try.underlying28 Try.underlying5 Try.underlying9 w.heap.size P.length P rfl) ?_
                dsimp only [setS, List.set]
                repeat
                  first | apply wpS_c rfl | apply wpS_gc rfl (guard_mk rfl rfl)
                  focus
                    intro ev wx hC hx
                    (try simp [Op.operands, Call.operands, opndS, Slot.holds] at hx)
                    go_simp
                    try (first | exact rfl | exact ⟨Below.refl _ _, rfl⟩)
                    done
                  dsimp only [setS, List.set]
                refine wpS_nil (HQ _ fun w5 hC5 => ?_)
                simp only [closeS, List.drop_succ_cons, List.drop_zero, List.drop_nil]
                clear HQ k1
                rintro v0 -
                have HC5 := hide hC5.below
                have HB5 := hide (HBW.out.trans (hC5.below.mono HBW.out.size))
                clear hC5
                go_wp2
                go_ret2
                rw [HRES.out]
                exact ⟨⟨_, rfl, by rw [HVS.out.1]; exact own_below HV9.out HC5.out⟩, HB5.out⟩
              | false =>
                have HRES := hide ((HEQ.out _ hx).2 rfl)
                rw [hx] at hbs
                have hbs2 : (bstr P != bstr b) = true := hbs
                have hbs3 : (bstr P == bstr b) = false := (bstr_beq P b).trans hx
                clear hbs
                go_wp2_with fail
                refine wp_region_K 11 (by kernel_rfl) (by kernel_rfl) (fun Q HQ => ?_)
                simp only [List.take_succ_cons, List.take_zero, List.map_cons, List.map_nil]
                repeat
                  first | apply wpS_c rfl | apply wpS_gc rfl (guard_mk rfl rfl)
                  focus
                    intro ev wx hC hx
                    (try simp [Op.operands, Call.operands, opndS, Slot.holds] at hx)
                    go_simp
                    try (first | exact rfl | exact ⟨Below.refl _ _, rfl⟩ | (go_at_call 10; refine (HCK.out _ hC).mono ?_; rintro e w' ⟨rfl, rfl⟩; exact ⟨rfl, bl_refl _⟩))
                    done
                  dsimp only [setS, List.set]
                refine wpS_gp (R := FreshRow w.heap.size 5 P.length (P.map u8v)) rfl (stab_fresh _ _ _ _) (guard_mk rfl rfl) ?_ ?_
                focus
                  intro ev wx hC hx
                  (try simp [Op.operands, Call.operands, opndS, Slot.holds] at hx)
                  go_simp
                  refine (rpack_any (some ⟨gv, 0, none⟩) k k _ wx (HI9.out.below hC.below) HK.out).mono ?_
                  rintro e w' ⟨v, rfl, hown, hb⟩
                  rw [HNAT.out, ← HP.out] at hown
                  have s1 := HBW.out.size
                  have s2 := hC.below.size
                  have s3 := hb.size
                  exact ⟨v, rfl, hb, by omega, own_base hown (by omega)⟩
                dsimp only [setS, List.set]
                refine wpS_gc rfl (guard_mk rfl rfl) (opS_str_fresh (.tmp 183) 28 9 5 rfl Try.underlying28 Try.underlying5 Try.underlying9 w.heap.size P.length P rfl) ?_
                dsimp only [setS, List.set]
                repeat
                  first | apply wpS_c rfl | apply wpS_gc rfl (guard_mk rfl rfl)
                  focus
                    intro ev wx hC hx
                    (try simp [Op.operands, Call.operands, opndS, Slot.holds] at hx)
                    go_simp
                    try (first | exact rfl | exact ⟨Below.refl _ _, rfl⟩)
                    done
                  dsimp only [setS, List.set]
                refine wpS_nil (HQ _ fun w5 hC5 => ?_)
                simp only [closeS, List.drop_succ_cons, List.drop_zero, List.drop_nil]
                clear HQ k1
                rintro v0 -
                have HC5 := hide hC5.below
                have HB5 := hide (HBW.out.trans (hC5.below.mono HBW.out.size))
                clear hC5
                go_wp2
                go_ret2
                rw [HRES.out]
                exact ⟨rfl, HB5.out⟩
end Go.Proofs.Ytchcaidcohgjbaa
