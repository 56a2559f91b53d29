/- The walks of the program's parts of Validate: tokens; texts at one text or none. The walks of the program's parts of Validate: texts and regions, at none and at one. The walk of the program's part of Validate: regions, at none and at one. The walk of the program's Validate where every part is valid; checkAttributes. The walks of the program's checkAttributes, copyPairs, copyRegion and SortRegions, at what the text of the example needs. -/
import Derived.Test.YtbpkclopcoaikaaGreatDoorMh
import Derived.Test.YtbpkclopcoaikaaGreatDoorMg
import Derived.Laws.EntriesVeiled
import Derived.Test.YtbpkclopcoaikaaGreatDoorMf
namespace Go.Proofs.YtbpkclopcoaikaaGreatDoor
open Go.RowKit
set_option linter.unusedVariables false
set_option linter.unusedSimpArgs false
set_option maxRecDepth 100000 in
theorem ceov_any (S : ByteArray) (c : UInt8) (hc : PlainB c) (w : World) : Calls Tryz.prog 71 #[.agg #[.string S, .bool false], .string (bstr [c])] w fun e w' => e = .returned (.int .i64 0) ∧ Below w.heap.size w w' := by
  have HV := hide (fun wx => mvalue_any c hc wx)
  have HB := hide (bl_alloc (bl_refl w) (.cells #[.string S, .bool false] 71 (0, 0)))
  generalize bstr [c] = C at *
  go_enter Tryz.func71, Tryz.ntmps71
  go_wp2_with fail
  refine (HV.out _).mono ?_
  rintro e w1 ⟨rfl, hb⟩
  have HB1 := hide (HB.out.trans (hb.mono HB.out.size))
  clear hb
  go_wp2
  go_ret
  exact ⟨rfl, HB1.out⟩
/-- Tokens of one value each, read. -/
def TokV (w : World) (a : Option Addr) (toks : List UInt8) : Prop := ∃ ts : List Value, ts.length = toks.length ∧ Rd w a ts ∧ ∀ (i : Nat) (c : UInt8), toks[i]? = some c → PlainB c ∧ ∃ a' c', ts[i]? = some (.slice a' 1 c') ∧ Rd w a' [.string (bstr [c])]
theorem TokV.below {w w' : World} {a : Option Addr} {toks : List UInt8} (h : TokV w a toks) (hb : Below w.heap.size w w') : TokV w' a toks := by
  obtain ⟨ts, h1, h2, h3⟩ := h
  exact ⟨ts, h1, h2.below hb, fun i c hi => let ⟨p, a', c', e, r⟩ := h3 i c hi; ⟨p, a', c', e, r.below hb⟩⟩
set_option maxHeartbeats 8000000 in
set_option maxRecDepth 100000 in
theorem ctokens_any (c : Cv) (l : List UInt8) (toks : List UInt8) (w : World) (hn : c.A.n = 1) (hA : Rd w c.A.a [.string (bstr l), .bool false]) (ht : c.T.n = toks.length) (htl : toks.length ≤ 10) (hT : TokV w c.T.a toks) : Calls Tryz.prog 44 #[c.v] w (PartP w) := by
  obtain ⟨S, hS⟩ : ∃ S, S = bstr l := ⟨_, rfl⟩
  rw [← hS] at hA
  clear hS
  obtain ⟨⟨aa, an, ac⟩, ⟨ta, tn, tc⟩, cX, cR, cN, cH, cL⟩ := c
  simp only at hn hA ht hT
  subst hn
  rw [← ht] at htl
  obtain ⟨b, o, rfl, hb, hcl⟩ := hA.open_ (by simp)
  have HA := hide hA
  have HT := hide hT
  have HTN := hide ht
  clear hA hb hcl hT ht
  obtain ⟨W0, hW0⟩ : ∃ W0, W0 = w.alloc (Cv.mk ⟨some ⟨b, o, none⟩, 1, ac⟩ ⟨ta, tn, tc⟩ cX cR cN cH cL).o := ⟨_, rfl⟩
  have HW := hide hW0
  have HB := hide (bl_alloc (bl_refl w) (Cv.mk ⟨some ⟨b, o, none⟩, 1, ac⟩ ⟨ta, tn, tc⟩ cX cR cN cH cL).o)
  have HC := hide (CCells.new w (Cv.mk ⟨some ⟨b, o, none⟩, 1, ac⟩ ⟨ta, tn, tc⟩ cX cR cN cH cL))
  rw [← hW0] at HB HC
  clear hW0
  have htl' : ¬ (4096 : Int) < (tn : Int) := by omega
  go_enter Tryz.func44, Tryz.ntmps44
  go_wp2_with fail
  rw [← HW.out]
  go_loopw [16] (fun kv wr => ∃ k : Nat, kv = .int .i64 (k : Int) ∧ k ≤ tn ∧ Hid (Below W0.heap.size W0 wr)) (fun k _ => tn - (intOf k).toNat)
  case atStart => exact ⟨0, rfl, Nat.zero_le _, hide (bl_refl W0)⟩
  case round =>
    obtain ⟨k, rfl, hk, HBk⟩ := hrel
    by_cases hkn : k < tn
    · have hki : (k : Int) < (tn : Int) := by omega
      obtain ⟨ts, hts, hrd, hall⟩ := (HT.out.below HB.out).below HBk.out
      obtain ⟨ch, hch⟩ : ∃ ch, toks[k]? = some ch := ⟨_, List.getElem?_eq_getElem (by have := HTN.out; omega)⟩
      obtain ⟨hpl, a', c', hv, hr⟩ := hall k ch hch
      obtain ⟨tb, to, rfl, htb, htc⟩ := hrd.at_ hv
      obtain ⟨b', o', rfl, hb', hc'⟩ := hr.open_ (by simp)
      have v0 := hc' 0 _ rfl
      simp only [Nat.add_zero] at v0
      have HV0 := hide v0
      have HEV := hide (fun wx => ceov_any S ch hpl wx)
      obtain ⟨C, hC⟩ : ∃ C, C = bstr [ch] := ⟨_, rfl⟩
      rw [← hC] at HV0 HEV
      have s0 := (HC.out.below HBk.out).c0
      clear hts hrd hall hch hv hr hb' hc' v0 hC htb hpl
      go_wp2_with fail
      clear s0 htc
      go_loopw [30] (fun jv wx => Hid (jv = .int .i64 0 ∧ wx = wr ∨ jv = .int .i64 1 ∧ Below W0.heap.size W0 wx)) (fun j _ => 1 - (intOf j).toNat)
      case atStart => exact hide (.inl ⟨rfl, rfl⟩)
      case round =>
        rename_i wj _ _ _ _
        rcases hrel.out with ⟨rfl, hww⟩ | ⟨rfl, hbj⟩
        · subst hww
          have v0 := HV0.out
          have s0 := (HC.out.below HBk.out).c0
          have a0 := (HBk.out.cell (lt_heap ((HB.out.cell (lt_heap (HA.out.cells _ rfl 0 _ rfl))).trans (HA.out.cells _ rfl 0 _ rfl)))).trans ((HB.out.cell (lt_heap (HA.out.cells _ rfl 0 _ rfl))).trans (HA.out.cells _ rfl 0 _ rfl))
          have a1 := (HBk.out.cell (lt_heap ((HB.out.cell (lt_heap (HA.out.cells _ rfl 1 _ rfl))).trans (HA.out.cells _ rfl 1 _ rfl)))).trans ((HB.out.cell (lt_heap (HA.out.cells _ rfl 1 _ rfl))).trans (HA.out.cells _ rfl 1 _ rfl))
          rw [Addr.add_lit] at a0 a1
          simp only [Nat.add_zero] at a0
          clear hrel
          go_wp2_with fail
          refine (HEV.out _).mono ?_
          rintro e w3 ⟨rfl, hb3⟩
          have HB3 := hide (HBk.out.trans (hb3.mono HBk.out.size))
          clear hb3 v0 s0 a0 a1
          go_wp2
          go_roundw
          case rel => exact hide (.inr ⟨rfl, HB3.out⟩)
          case measure => simp [intOf]
        · have HBj := hide hbj
          clear hbj hrel
          go_wp2
          go_roundw
          case rel => exact ⟨k + 1, by go_num, by omega, HBj⟩
          case measure => simp [intOf]; omega
    · obtain rfl : k = tn := by omega
      have HBB := hide (HB.out.trans (HBk.out.mono HB.out.size))
      clear hkn
      go_wp2
      go_ret2
      exact ⟨rfl, HBB.out⟩
end Go.Proofs.YtbpkclopcoaikaaGreatDoor
namespace Go.Proofs.YtbpkclopcoaikaaGreatDoor
open Go.RowKit
set_option linter.unusedVariables false
set_option linter.unusedSimpArgs false
set_option maxHeartbeats 4000000 in
set_option maxRecDepth 100000 in
theorem find1_any (c : Cv) (w : World) (hn : c.X.n = 1) (hX : Rd w c.X.a (txtV (0, 2))) : Calls Tryz.prog 72 #[c.v, .string (bstr [116])] w fun e w' => e = .returned (.int .i64 0) ∧ Below w.heap.size w w' := by
  unfold txtV at hX
  generalize bstr [116] = T1 at *
  obtain ⟨cA, cT, ⟨xa, xn, xc⟩, cR, cN, cH, cL⟩ := c
  simp only at hn hX
  subst hn
  obtain ⟨b, o, rfl, hb, hcl⟩ := hX.open_ (by simp [txtV])
  have HX := hide hX
  clear hX hb hcl
  obtain ⟨W0, hW0⟩ : ∃ W0, W0 = w.alloc (Cv.mk cA cT ⟨some ⟨b, o, none⟩, 1, xc⟩ cR cN cH cL).o := ⟨_, rfl⟩
  have HW := hide hW0
  have HB := hide (bl_alloc (bl_refl w) (Cv.mk cA cT ⟨some ⟨b, o, none⟩, 1, xc⟩ cR cN cH cL).o)
  have HC := hide (CCells.new w (Cv.mk cA cT ⟨some ⟨b, o, none⟩, 1, xc⟩ cR cN cH cL))
  rw [← hW0] at HB HC
  clear hW0
  go_enter Tryz.func72, Tryz.ntmps72
  go_wp2_with fail
  rw [← HW.out]
  go_loopw [10] (fun k wr => Hid (k = .int .i64 0 ∧ wr = W0)) (fun k _ => 0)
  case atStart => exact hide ⟨rfl, rfl⟩
  case round =>
    obtain ⟨rfl, hww⟩ := hrel.out
    obtain rfl : W0 = wr := hww.symm
    clear hrel hww
    have x0 := (HB.out.cell (lt_heap (HX.out.cells _ rfl 0 _ rfl))).trans (HX.out.cells _ rfl 0 _ rfl)
    have x1 := (HB.out.cell (lt_heap (HX.out.cells _ rfl 1 _ rfl))).trans (HX.out.cells _ rfl 1 _ rfl)
    have x2 := (HB.out.cell (lt_heap (HX.out.cells _ rfl 2 _ rfl))).trans (HX.out.cells _ rfl 2 _ rfl)
    have x3 := (HB.out.cell (lt_heap (HX.out.cells _ rfl 3 _ rfl))).trans (HX.out.cells _ rfl 3 _ rfl)
    rw [Addr.add_lit] at x0 x1 x2 x3
    simp only [Nat.add_zero, iv] at x0 x1 x2 x3
    have HB1 := hide (bl_alloc HB.out (.cells #[.string T1, .int .i64 0, .int .i64 2, .slice none 0 0] 88 (0, 0)))
    go_wp2
    go_ret
    exact ⟨rfl, HB1.out⟩
set_option maxHeartbeats 4000000 in
set_option maxRecDepth 100000 in
theorem ctextAt_any (c : Cv) (w : World) (hn : c.X.n = 1) (hX : Rd w c.X.a (txtV (0, 2))) : Calls Tryz.prog 79 #[c.v, .int .i64 0] w fun e w' => e = .returned (.int .i64 0) ∧ Below w.heap.size w w' := by
  unfold txtV at hX
  generalize bstr [116] = T1 at *
  obtain ⟨cA, cT, ⟨xa, xn, xc⟩, cR, cN, cH, cL⟩ := c
  simp only at hn hX
  subst hn
  obtain ⟨b, o, rfl, hb, hcl⟩ := hX.open_ (by simp [txtV])
  have HX := hide hX
  clear hX hb hcl
  obtain ⟨W0, hW0⟩ : ∃ W0, W0 = w.alloc (Cv.mk cA cT ⟨some ⟨b, o, none⟩, 1, xc⟩ cR cN cH cL).o := ⟨_, rfl⟩
  have HW := hide hW0
  have HB := hide (bl_alloc (bl_refl w) (Cv.mk cA cT ⟨some ⟨b, o, none⟩, 1, xc⟩ cR cN cH cL).o)
  have HC := hide (CCells.new w (Cv.mk cA cT ⟨some ⟨b, o, none⟩, 1, xc⟩ cR cN cH cL))
  rw [← hW0] at HB HC
  clear hW0
  go_enter Tryz.func79, Tryz.ntmps79
  go_wp2_with fail
  rw [← HW.out]
  go_loopw [10] (fun k wr => Hid (k = .int .i64 0 ∧ wr = W0)) (fun k _ => 0)
  case atStart => exact hide ⟨rfl, rfl⟩
  case round =>
    obtain ⟨rfl, hww⟩ := hrel.out
    obtain rfl : W0 = wr := hww.symm
    clear hrel hww
    have x0 := (HB.out.cell (lt_heap (HX.out.cells _ rfl 0 _ rfl))).trans (HX.out.cells _ rfl 0 _ rfl)
    have x1 := (HB.out.cell (lt_heap (HX.out.cells _ rfl 1 _ rfl))).trans (HX.out.cells _ rfl 1 _ rfl)
    have x2 := (HB.out.cell (lt_heap (HX.out.cells _ rfl 2 _ rfl))).trans (HX.out.cells _ rfl 2 _ rfl)
    have x3 := (HB.out.cell (lt_heap (HX.out.cells _ rfl 3 _ rfl))).trans (HX.out.cells _ rfl 3 _ rfl)
    rw [Addr.add_lit] at x0 x1 x2 x3
    simp only [Nat.add_zero, iv] at x0 x1 x2 x3
    have HB1 := hide (bl_alloc HB.out (.cells #[.string T1, .int .i64 0, .int .i64 2, .slice none 0 0] 88 (0, 0)))
    go_wp2
    go_ret
    exact ⟨rfl, HB1.out⟩
set_option maxHeartbeats 4000000 in
set_option maxRecDepth 100000 in
theorem inText_any (c : Cv) (w : World) (hn : c.X.n = 1) (hX : Rd w c.X.a (txtV (0, 2))) : Calls Tryz.prog 74 #[c.v, .int .i64 0, .int .i64 1] w fun e w' => e = .returned (.bool true) ∧ Below w.heap.size w w' := by
  have HTA : Hid (∀ wx, Below w.heap.size w wx → Calls Tryz.prog 79 #[c.v, .int .i64 0] wx fun e w' => e = .returned (.int .i64 0) ∧ Below wx.heap.size wx w') := hide (fun wx hx => ctextAt_any c wx hn (hX.below hx))
  unfold txtV at hX
  generalize bstr [116] = T1 at *
  obtain ⟨cA, cT, ⟨xa, xn, xc⟩, cR, cN, cH, cL⟩ := c
  simp only at hn hX
  subst hn
  obtain ⟨b, o, rfl, hb, hcl⟩ := hX.open_ (by simp [txtV])
  have HX := hide hX
  clear hX hb hcl
  obtain ⟨W0, hW0⟩ : ∃ W0, W0 = w.alloc (Cv.mk cA cT ⟨some ⟨b, o, none⟩, 1, xc⟩ cR cN cH cL).o := ⟨_, rfl⟩
  have HW := hide hW0
  have HB := hide (bl_alloc (bl_refl w) (Cv.mk cA cT ⟨some ⟨b, o, none⟩, 1, xc⟩ cR cN cH cL).o)
  have HC := hide (CCells.new w (Cv.mk cA cT ⟨some ⟨b, o, none⟩, 1, xc⟩ cR cN cH cL))
  rw [← hW0] at HB HC
  clear hW0
  go_enter Tryz.func74, Tryz.ntmps74
  go_wp2_with fail
  rw [← HW.out]
  refine (HTA.out _ HB.out).mono ?_
  rintro e w1 ⟨rfl, hb⟩
  have HX1 := hide hb
  have HB1 := hide (HB.out.trans (hb.mono HB.out.size))
  clear hb
  have s2 := (HC.out.below HX1.out).c2
  have x0 := (HB1.out.cell (lt_heap (HX.out.cells _ rfl 0 _ rfl))).trans (HX.out.cells _ rfl 0 _ rfl)
  have x1 := (HB1.out.cell (lt_heap (HX.out.cells _ rfl 1 _ rfl))).trans (HX.out.cells _ rfl 1 _ rfl)
  have x2 := (HB1.out.cell (lt_heap (HX.out.cells _ rfl 2 _ rfl))).trans (HX.out.cells _ rfl 2 _ rfl)
  have x3 := (HB1.out.cell (lt_heap (HX.out.cells _ rfl 3 _ rfl))).trans (HX.out.cells _ rfl 3 _ rfl)
  rw [Addr.add_lit] at x0 x1 x2 x3
  simp only [Nat.add_zero, iv] at x0 x1 x2 x3
  go_wp2
  go_ret
  exact ⟨rfl, HB1.out⟩
set_option maxHeartbeats 4000000 in
set_option maxRecDepth 100000 in
theorem texts0_any (c : Cv) (w : World) (hn : c.X.n = 0) (ht : c.T.n = 0) : Calls Tryz.prog 45 #[c.v] w (PartP w) := by
  obtain ⟨cA, ⟨ta, tn, tc⟩, ⟨xa, xn, xc⟩, cR, cN, cH, cL⟩ := c
  simp only at hn ht
  subst hn ht
  have HB := hide (bl_alloc (bl_refl w) (Cv.mk cA ⟨ta, 0, tc⟩ ⟨xa, 0, xc⟩ cR cN cH cL).o)
  go_enter Tryz.func45, Tryz.ntmps45
  go_wp2_with fail
  go_loopw [4, 26] (fun v k wr => Hid (v = .int .i64 0 ∧ k = .int .i64 0 ∧ Below w.heap.size w wr)) (fun _ k _ => 0)
  case atStart => exact hide ⟨rfl, rfl, HB.out⟩
  case round =>
    obtain ⟨rfl, rfl, hb⟩ := hrel.out
    have HB1 := hide hb
    clear hrel hb
    go_wp2
    go_ret2
    exact ⟨rfl, HB1.out⟩
set_option maxHeartbeats 8000000 in
set_option maxRecDepth 100000 in
theorem texts1_any (c : Cv) (w : World) (hn : c.X.n = 1) (hX : Rd w c.X.a (txtV (0, 2))) (ht : c.T.n = 2) : Calls Tryz.prog 45 #[c.v] w (PartP w) := by
  have HFT : Hid (∀ wx, Below w.heap.size w wx → Calls Tryz.prog 72 #[c.v, .string (bstr [116])] wx fun e w' => e = .returned (.int .i64 0) ∧ Below wx.heap.size wx w') := hide (fun wx hx => find1_any c wx hn (hX.below hx))
  have HNM : Hid (∀ wx, Calls Tryz.prog 50 #[.string (bstr [116])] wx fun e w' => e = .returned (.bool true) ∧ wx = w') := hide (fun wx => mname_any [116] wx)
  unfold txtV at hX
  generalize bstr [116] = T1 at *
  obtain ⟨cA, ⟨ta, tn, tc⟩, ⟨xa, xn, xc⟩, cR, cN, cH, cL⟩ := c
  simp only at hn hX ht
  subst hn ht
  obtain ⟨b, o, rfl, hb, hcl⟩ := hX.open_ (by simp [txtV])
  have HX := hide hX
  clear hX hb hcl
  obtain ⟨W0, hW0⟩ : ∃ W0, W0 = w.alloc (Cv.mk cA ⟨ta, 2, tc⟩ ⟨some ⟨b, o, none⟩, 1, xc⟩ cR cN cH cL).o := ⟨_, rfl⟩
  have HW := hide hW0
  have HB := hide (bl_alloc (bl_refl w) (Cv.mk cA ⟨ta, 2, tc⟩ ⟨some ⟨b, o, none⟩, 1, xc⟩ cR cN cH cL).o)
  have HC := hide (CCells.new w (Cv.mk cA ⟨ta, 2, tc⟩ ⟨some ⟨b, o, none⟩, 1, xc⟩ cR cN cH cL))
  rw [← hW0] at HB HC
  clear hW0
  have hw0 : IntKind.i64.wrap 0 = 0 := wrap_ok (by omega) (by omega)
  go_enter Tryz.func45, Tryz.ntmps45
  go_wp2_with fail
  rw [← HW.out]
  go_loopw [4, 26] (fun v k wr => Hid (v = .int .i64 0 ∧ k = .int .i64 0 ∧ wr = W0 ∨ v = .int .i64 2 ∧ k = .int .i64 1 ∧ Below w.heap.size w wr)) (fun _ k _ => 1 - (intOf k).toNat)
  case atStart => exact hide (.inl ⟨rfl, rfl, rfl⟩)
  case round =>
    rcases hrel.out with ⟨rfl, rfl, hww⟩ | ⟨rfl, rfl, hb⟩
    · obtain rfl : W0 = wr := hww.symm
      clear hrel hww
      have x0 := (HB.out.cell (lt_heap (HX.out.cells _ rfl 0 _ rfl))).trans (HX.out.cells _ rfl 0 _ rfl)
      have x1 := (HB.out.cell (lt_heap (HX.out.cells _ rfl 1 _ rfl))).trans (HX.out.cells _ rfl 1 _ rfl)
      have x2 := (HB.out.cell (lt_heap (HX.out.cells _ rfl 2 _ rfl))).trans (HX.out.cells _ rfl 2 _ rfl)
      have x3 := (HB.out.cell (lt_heap (HX.out.cells _ rfl 3 _ rfl))).trans (HX.out.cells _ rfl 3 _ rfl)
      rw [Addr.add_lit] at x0 x1 x2 x3
      simp only [Nat.add_zero, iv] at x0 x1 x2 x3
      obtain ⟨g, hg⟩ : ∃ g, g = W0.heap.size := ⟨_, rfl⟩
      have HX1 : Hid (Below W0.heap.size W0 (W0.alloc (.cells #[.string T1, .int .i64 0, .int .i64 2, .slice none 0 0] 88 (0, 0)))) := hide (bl_alloc (bl_refl W0) _)
      have HT1 : Hid (Blk (W0.alloc (.cells #[.string T1, .int .i64 0, .int .i64 2, .slice none 0 0] 88 (0, 0))) W0.heap.size [.string T1, .int .i64 0, .int .i64 2, .slice none 0 0] 88) := hide (Blk.new W0 _ _)
      have HB1 := hide (HB.out.trans (HX1.out.mono HB.out.size))
      clear hg
      go_wp2_with fail
      refine (HNM.out _).mono ?_
      rintro e w' ⟨rfl, rfl⟩
      clear x0 x1 x2 x3
      obtain ⟨s0, s1, s2, s3, s4, s5, s6⟩ := HC.out.below HX1.out
      go_wp2_with fail
      clear s0 s1 s2 s3 s4 s5 s6
      refine (HFT.out _ HB1.out).mono ?_
      rintro e w2 ⟨rfl, hb2⟩
      have HX2 := hide (HX1.out.trans (hb2.mono HX1.out.size))
      have HT2 := hide (HT1.out.below hb2)
      have HB2 := hide (HB1.out.trans (hb2.mono HB1.out.size))
      clear hb2
      have t1 := HT2.out.cell (k := 1) rfl
      have t2 := HT2.out.cell (k := 2) rfl
      have t3 := HT2.out.cell (k := 3) rfl
      have s1 := (HC.out.below HX2.out).c1
      have s2 := (HC.out.below HX2.out).c2
      go_wp2_with fail
      refine (pairs0_any _).mono ?_
      rintro e w' ⟨rfl, rfl⟩
      go_wp2
      go_roundw
      case rel => exact hide (.inr ⟨rfl, rfl, HB2.out⟩)
      case measure => simp [intOf]
    · have HB1 := hide hb
      clear hrel hb
      go_wp2
      go_ret2
      exact ⟨rfl, HB1.out⟩
end Go.Proofs.YtbpkclopcoaikaaGreatDoor
namespace Go.Proofs.YtbpkclopcoaikaaGreatDoor
open Go.RowKit
set_option linter.unusedVariables false
set_option linter.unusedSimpArgs false
set_option maxHeartbeats 4000000 in
set_option maxRecDepth 100000 in
theorem regions0_any (c : Cv) (w : World) (hn : c.R.n = 0) : Calls Tryz.prog 46 #[c.v] w (PartP w) := by
  obtain ⟨cA, cT, cX, ⟨ra, rn, rc⟩, cN, cH, cL⟩ := c
  simp only at hn
  subst hn
  have HB := hide (bl_alloc (bl_refl w) (Cv.mk cA cT cX ⟨ra, 0, rc⟩ cN cH cL).o)
  go_enter Tryz.func46, Tryz.ntmps46
  go_wp2_with fail
  go_loopw [20] (fun k wr => Hid (k = .int .i64 0 ∧ Below w.heap.size w wr)) (fun k _ => 0)
  case atStart => exact hide ⟨rfl, HB.out⟩
  case round =>
    obtain ⟨rfl, hb⟩ := hrel.out
    have HB1 := hide hb
    clear hrel hb
    go_wp2
    go_ret2
    exact ⟨rfl, HB1.out⟩
set_option maxHeartbeats 8000000 in
set_option maxRecDepth 100000 in
theorem regions1_any (c : Cv) (w : World) (hn : c.R.n = 1) (hR : Rd w c.R.a (regV (0, 1))) (hxn : c.X.n = 1) (hX : Rd w c.X.a (txtV (0, 2))) : Calls Tryz.prog 46 #[c.v] w (PartP w) := by
  obtain ⟨i2, hi2, hz0, hz1, hz2⟩ := info_parts info_region
  have HIT : Hid (∀ wx, Below w.heap.size w wx → Calls Tryz.prog 74 #[c.v, .int .i64 0, .int .i64 1] wx fun e w' => e = .returned (.bool true) ∧ Below wx.heap.size wx w') := hide (fun wx hx => inText_any c wx hxn (hX.below hx))
  have HNM : Hid (∀ wx, Calls Tryz.prog 50 #[.string (bstr [115])] wx fun e w' => e = .returned (.bool true) ∧ wx = w') := hide (fun wx => mname_any [115] wx)
  unfold regV at hR
  generalize bstr [115] = T1 at *
  clear hX hxn
  obtain ⟨cA, cT, cX, ⟨ra, rn, rc⟩, cN, cH, cL⟩ := c
  simp only at hn hR
  subst hn
  obtain ⟨b, o, rfl, hb, hcl⟩ := hR.open_ (by simp)
  have HX := hide hR
  clear hR hb hcl
  obtain ⟨W0, hW0⟩ : ∃ W0, W0 = w.alloc (Cv.mk cA cT cX ⟨some ⟨b, o, none⟩, 1, rc⟩ cN cH cL).o := ⟨_, rfl⟩
  have HW := hide hW0
  have HB := hide (bl_alloc (bl_refl w) (Cv.mk cA cT cX ⟨some ⟨b, o, none⟩, 1, rc⟩ cN cH cL).o)
  have HC := hide (CCells.new w (Cv.mk cA cT cX ⟨some ⟨b, o, none⟩, 1, rc⟩ cN cH cL))
  rw [← hW0] at HB HC
  clear hW0
  go_enter Tryz.func46, Tryz.ntmps46
  go_wp2_with fail
  rw [← HW.out]
  go_loopw [4, 20] (fun v k wr => Hid (v = .slice none 0 0 ∧ k = .int .i64 0 ∧ wr = W0 ∨ (∃ a n c, v = .slice a n c) ∧ k = .int .i64 1 ∧ Below w.heap.size w wr)) (fun _ k _ => 1 - (intOf k).toNat)
  case atStart => exact hide (.inl ⟨rfl, rfl, rfl⟩)
  case round =>
    rcases hrel.out with ⟨rfl, rfl, hww⟩ | ⟨⟨a, n, cc, rfl⟩, rfl, hb⟩
    · obtain rfl : W0 = wr := hww.symm
      clear hrel hww
      have x0 := (HB.out.cell (lt_heap (HX.out.cells _ rfl 0 _ rfl))).trans (HX.out.cells _ rfl 0 _ rfl)
      have x1 := (HB.out.cell (lt_heap (HX.out.cells _ rfl 1 _ rfl))).trans (HX.out.cells _ rfl 1 _ rfl)
      have x2 := (HB.out.cell (lt_heap (HX.out.cells _ rfl 2 _ rfl))).trans (HX.out.cells _ rfl 2 _ rfl)
      have x3 := (HB.out.cell (lt_heap (HX.out.cells _ rfl 3 _ rfl))).trans (HX.out.cells _ rfl 3 _ rfl)
      rw [Addr.add_lit] at x0 x1 x2 x3
      simp only [Nat.add_zero, iv] at x0 x1 x2 x3
      have HX1 : Hid (Below W0.heap.size W0 (W0.alloc (.cells #[.string T1, .int .i64 0, .int .i64 1, .slice none 0 0] 76 (0, 0)))) := hide (bl_alloc (bl_refl W0) _)
      have HT1 : Hid (Blk (W0.alloc (.cells #[.string T1, .int .i64 0, .int .i64 1, .slice none 0 0] 76 (0, 0))) W0.heap.size [.string T1, .int .i64 0, .int .i64 1, .slice none 0 0] 76) := hide (Blk.new W0 _ _)
      have HB1 := hide (HB.out.trans (HX1.out.mono HB.out.size))
      go_wp2_with fail
      refine (HNM.out _).mono ?_
      rintro e w' ⟨rfl, rfl⟩
      clear x0 x1 x2 x3
      obtain ⟨s0, s1, s2, s3, s4, s5, s6⟩ := HC.out.below HX1.out
      go_wp2_with fail
      clear s0 s1 s2 s3 s4 s5 s6
      refine (HIT.out _ HB1.out).mono ?_
      rintro e w2 ⟨rfl, hb2⟩
      have HX2 := hide (HX1.out.trans (hb2.mono HX1.out.size))
      have HT2 := hide (HT1.out.below hb2)
      have HB2 := hide (HB1.out.trans (hb2.mono HB1.out.size))
      clear hb2
      have t3 := HT2.out.cell (k := 3) rfl
      go_wp2_with fail
      refine (pairs0_any _).mono ?_
      rintro e w' ⟨rfl, rfl⟩
      clear t3
      go_wp2_with fail
      go_quiet ((go_at_call 69; fail))
      go_wp2_with fail
      have HB3 : Hid (Below w.heap.size w (w2.drewN nq)) := hide (bl_drewN HB2.out nq)
      have HT3 : Hid (Blk (w2.drewN nq) W0.heap.size [.string T1, .int .i64 0, .int .i64 1, .slice none 0 0] 76) := hide HT2.out
      obtain ⟨w3, hw3⟩ : ∃ w3, w3 = w2.drewN nq := ⟨_, rfl⟩
      rw [← hw3] at HB3 HT3 ⊢
      clear hw3
      go_loopw [8, 63] (fun v k wr => Hid (v = .slice none 0 0 ∧ k = .int .i64 0 ∧ wr = w3)) (fun _ k _ => 0)
      case atStart => exact hide ⟨rfl, rfl, rfl⟩
      case round =>
        obtain ⟨rfl, rfl, hww⟩ := hrel.out
        obtain rfl : w3 = wr := hww.symm
        clear hrel hww
        go_wp2_with fail
        go_loopw [79] (fun k wr => Hid (k = .int .i64 0 ∧ wr = w3)) (fun k _ => 0)
        case atStart => exact hide ⟨rfl, rfl⟩
        case round =>
          obtain ⟨rfl, hww⟩ := hrel.out
          obtain rfl : w3 = wr := hww.symm
          clear hrel hww
          have t0 := HT3.out.cell (k := 0) rfl
          have t1 := HT3.out.cell (k := 1) rfl
          have t2 := HT3.out.cell (k := 2) rfl
          have t3 := HT3.out.cell (k := 3) rfl
          have HRL := hide (rd_lit w3 #[.string T1, .int .i64 0, .int .i64 1, .slice none 0 0] 76 (0, 0))
          have HBA := hide (bl_alloc HB3.out (.cells #[.string T1, .int .i64 0, .int .i64 1, .slice none 0 0] 76 (0, 0)))
          go_wp2_with (at_builtin; go_loud (refine wpList_append_rd _ rfl (.tmp 95) (.tmp 97) 25 rfl w.heap.size 76 i2 _ 4 56 Tryz.underlying25 hi2 hz0 hz1 hz2 rfl (by decide) (.slice none 0 0) 0 [] rfl (World.ownsRow_nil _ _ _ _) (some ⟨w3.heap.size, 0, none⟩) 1 1 [.string T1, .int .i64 0, .int .i64 1, .slice none 0 0] rfl rfl HRL.out (by intro u hu; simp at hu; rcases hu with rfl | rfl | rfl | rfl <;> rfl) (by simp only [maxLen]; omega) (by omega) HBA.out.size ?_; intro v2 w4 hown hg1 hat1; obtain ⟨g4, c4, hv, hcc, hgb, hgl⟩ := ownG_pos hown (by omega); subst hv; have HB4 := hide (bl_grown HBA.out hg1 (fun k hk => by cases hk)); clear hown hg1 hat1 hcc hgb hgl t0 t1 t2 t3))
          go_roundw
          case rel => exact hide (.inr ⟨⟨_, _, _, rfl⟩, rfl, HB4.out⟩)
          case measure => simp [intOf]
    · have HB1 := hide hb
      clear hrel hb
      go_wp2
      go_ret2
      exact ⟨rfl, HB1.out⟩
end Go.Proofs.YtbpkclopcoaikaaGreatDoor
namespace Go.Proofs.YtbpkclopcoaikaaGreatDoor
open Go.RowKit
set_option linter.unusedVariables false
set_option linter.unusedSimpArgs false
def ValOK (w : World) (e : Ending) (w' : World) : Prop := e = .returned (.tuple #[.int .i64 0, .int .i64 0, .int .i64 0]) ∧ Below w.heap.size w w'
def PartsOk (c : Cv) (w : World) (f : FuncId) : Prop := ∀ wx, Below w.heap.size w wx → Calls Tryz.prog f #[c.v] wx (PartP wx)
set_option maxHeartbeats 8000000 in
set_option maxRecDepth 100000 in
theorem cvalid_any (c : Cv) (w : World) (h0 : PartsOk c w 43) (h1 : PartsOk c w 44) (h2 : PartsOk c w 45) (h3 : PartsOk c w 46) (h4 : PartsOk c w 47) (h5 : PartsOk c w 48) : Calls Tryz.prog 28 #[c.v] w (ValOK w) := by
  have H0 := hide h0
  have H1 := hide h1
  have H2 := hide h2
  have H3 := hide h3
  have H4 := hide h4
  have H5 := hide h5
  clear h0 h1 h2 h3 h4 h5
  obtain ⟨W0, hW0⟩ : ∃ W0, W0 = (w.alloc c.o).alloc (.cells #[.func (.func 43) #[] #[], .func (.func 44) #[] #[], .func (.func 45) #[] #[], .func (.func 46) #[] #[], .func (.func 47) #[] #[], .func (.func 48) #[] #[]] 101 (0, 0)) := ⟨_, rfl⟩
  have HW := hide hW0
  have HB : Hid (Below w.heap.size w W0) := hide (by rw [hW0]; exact bl_alloc (bl_alloc (bl_refl w) _) _)
  have HC : Hid (CCells W0 w.heap.size c) := hide (by rw [hW0]; exact (CCells.new w c).below (bl_alloc (bl_refl _) _))
  have HF0 : Hid (Blk W0 (w.heap.size + 1) [.func (.func 43) #[] #[], .func (.func 44) #[] #[], .func (.func 45) #[] #[], .func (.func 46) #[] #[], .func (.func 47) #[] #[], .func (.func 48) #[] #[]] 101) := hide (by rw [hW0]; exact Blk.newG (by simp) _ _)
  clear hW0
  go_enter Tryz.func28, Tryz.ntmps28
  go_wp2_with fail
  rw [← HW.out]
  go_loopw [13] (fun kv wr => ∃ k : Nat, kv = .int .i64 (k : Int) ∧ k ≤ 6 ∧ Hid (Below W0.heap.size W0 wr)) (fun kv _ => 6 - (intOf kv).toNat)
  case atStart => exact ⟨0, rfl, by omega, hide (bl_refl W0)⟩
  case round =>
    obtain ⟨k, rfl, hk, HBk⟩ := hrel
    have HF := hide (HF0.out.below HBk.out)
    match k, hk with
    | 0, _ =>
      skip
      have s := HF.out.cell (k := 0) rfl
      obtain ⟨s0, s1, s2, s3, s4, s5, s6⟩ := HC.out.below HBk.out
      go_wp2_with fail
      clear s s0 s1 s2 s3 s4 s5 s6
      refine (H0.out _ (HB.out.trans (HBk.out.mono HB.out.size))).mono ?_
      rintro e w3 ⟨rfl, hb3⟩
      have HB3 := hide (HBk.out.trans (hb3.mono HBk.out.size))
      clear hb3
      go_wp2
      go_roundw
      case rel => exact ⟨0 + 1, rfl, by omega, HB3⟩
      case measure => simp [intOf]
    | 1, _ =>
      skip
      have s := HF.out.cell (k := 1) rfl
      obtain ⟨s0, s1, s2, s3, s4, s5, s6⟩ := HC.out.below HBk.out
      go_wp2_with fail
      clear s s0 s1 s2 s3 s4 s5 s6
      refine (H1.out _ (HB.out.trans (HBk.out.mono HB.out.size))).mono ?_
      rintro e w3 ⟨rfl, hb3⟩
      have HB3 := hide (HBk.out.trans (hb3.mono HBk.out.size))
      clear hb3
      go_wp2
      go_roundw
      case rel => exact ⟨1 + 1, rfl, by omega, HB3⟩
      case measure => simp [intOf]
    | 2, _ =>
      skip
      have s := HF.out.cell (k := 2) rfl
      obtain ⟨s0, s1, s2, s3, s4, s5, s6⟩ := HC.out.below HBk.out
      go_wp2_with fail
      clear s s0 s1 s2 s3 s4 s5 s6
      refine (H2.out _ (HB.out.trans (HBk.out.mono HB.out.size))).mono ?_
      rintro e w3 ⟨rfl, hb3⟩
      have HB3 := hide (HBk.out.trans (hb3.mono HBk.out.size))
      clear hb3
      go_wp2
      go_roundw
      case rel => exact ⟨2 + 1, rfl, by omega, HB3⟩
      case measure => simp [intOf]
    | 3, _ =>
      skip
      have s := HF.out.cell (k := 3) rfl
      obtain ⟨s0, s1, s2, s3, s4, s5, s6⟩ := HC.out.below HBk.out
      go_wp2_with fail
      clear s s0 s1 s2 s3 s4 s5 s6
      refine (H3.out _ (HB.out.trans (HBk.out.mono HB.out.size))).mono ?_
      rintro e w3 ⟨rfl, hb3⟩
      have HB3 := hide (HBk.out.trans (hb3.mono HBk.out.size))
      clear hb3
      go_wp2
      go_roundw
      case rel => exact ⟨3 + 1, rfl, by omega, HB3⟩
      case measure => simp [intOf]
    | 4, _ =>
      skip
      have s := HF.out.cell (k := 4) rfl
      obtain ⟨s0, s1, s2, s3, s4, s5, s6⟩ := HC.out.below HBk.out
      go_wp2_with fail
      clear s s0 s1 s2 s3 s4 s5 s6
      refine (H4.out _ (HB.out.trans (HBk.out.mono HB.out.size))).mono ?_
      rintro e w3 ⟨rfl, hb3⟩
      have HB3 := hide (HBk.out.trans (hb3.mono HBk.out.size))
      clear hb3
      go_wp2
      go_roundw
      case rel => exact ⟨4 + 1, rfl, by omega, HB3⟩
      case measure => simp [intOf]
    | 5, _ =>
      skip
      have s := HF.out.cell (k := 5) rfl
      obtain ⟨s0, s1, s2, s3, s4, s5, s6⟩ := HC.out.below HBk.out
      go_wp2_with fail
      clear s s0 s1 s2 s3 s4 s5 s6
      refine (H5.out _ (HB.out.trans (HBk.out.mono HB.out.size))).mono ?_
      rintro e w3 ⟨rfl, hb3⟩
      have HB3 := hide (HBk.out.trans (hb3.mono HBk.out.size))
      clear hb3
      go_wp2
      go_roundw
      case rel => exact ⟨5 + 1, rfl, by omega, HB3⟩
      case measure => simp [intOf]
    | 6, _ =>
      have HBB := hide (HB.out.trans (HBk.out.mono HB.out.size))
      go_wp2
      refine bodyPost_ret (v := .tuple #[.int .i64 0, .int .i64 0, .int .i64 0]) (by simp [results, Tryz.results28, go_sem]) rfl ⟨rfl, HBB.out⟩
end Go.Proofs.YtbpkclopcoaikaaGreatDoor
namespace Go.Proofs.YtbpkclopcoaikaaGreatDoor
open Go.RowKit
set_option linter.unusedVariables false
set_option linter.unusedSimpArgs false
set_option maxRecDepth 100000 in
theorem chkA_any (l : List UInt8) (a : Option Addr) (cp : Nat) (w : World) (hcp : 1 ≤ cp) (hA : Rd w a [.string (bstr l), .bool false]) (hl : nameB l = true) : Calls Tryz.prog 38 #[.slice a 1 cp] w fun e w' => e = .returned (.bool true) ∧ Below w.heap.size w w' := by
  have HV : Hid (∀ wx, Below w.heap.size w wx → Calls Tryz.prog 28 #[.agg #[.slice a 1 cp, .slice none 0 0, .slice none 0 0, .slice none 0 0, .slice none 0 0, .slice none 0 0, .slice none 0 0]] wx (ValOK wx)) := hide (fun wx hx =>
    cvalid_any ⟨⟨a, 1, cp⟩, ⟨none, 0, 0⟩, ⟨none, 0, 0⟩, ⟨none, 0, 0⟩, ⟨none, 0, 0⟩, ⟨none, 0, 0⟩, ⟨none, 0, 0⟩⟩ wx
      (fun wy hy => attrs1_any _ l wy rfl hcp ((hA.below hx).below hy) hl)
      (fun wy hy => ctokens_any _ l [] wy rfl ((hA.below hx).below hy) rfl (by simp) ⟨[], rfl, .inl rfl, fun i c h => by simp at h⟩)
      (fun wy hy => texts0_any _ wy rfl rfl) (fun wy hy => regions0_any _ wy rfl) (fun wy hy => nodes0_any _ wy rfl) (fun wy hy => heads0_any _ wy rfl rfl))
  clear hA
  go_enter Tryz.func38, Tryz.ntmps38
  go_wp2_with fail
  refine (HV.out _ (bl_refl w)).mono ?_
  rintro e w1 ⟨rfl, hb⟩
  have HB := hide hb
  clear hb
  go_wp2
  go_ret
  exact ⟨rfl, HB.out⟩
theorem copyP_any (w : World) : Calls Tryz.prog 100 #[.slice none 0 0] w fun e w' => e = .returned (.slice none 0 0) ∧ w = w' := by
  obtain ⟨i2, hi2, hz0, hz1, hz2⟩ := info_parts info_pair
  have hap := fun (ty : TypeId) => run_append_nothing (P := Tryz.prog) w 0 74 ty 108 i2 2 Tryz.underlying74 hi2 (.slice none 0 0) 0 [] (World.ownsRow_nil _ _ _ _) 0
  go_enter Tryz.func100, Tryz.ntmps100
  go_wp2
  go_ret
  exact ⟨rfl, rfl⟩
set_option maxHeartbeats 4000000 in
set_option maxRecDepth 100000 in
theorem copyR_any (A : ByteArray) (w : World) : Calls Tryz.prog 70 #[.agg #[.string A, .int .i64 0, .int .i64 1, .slice none 0 0], .int .i64 0] w fun e w' => e = .returned (.agg #[.string A, .int .i64 0, .int .i64 1, .slice none 0 0]) ∧ Below w.heap.size w w' := by
  obtain ⟨n0, hn0⟩ : ∃ n0, n0 = w.heap.size := ⟨_, rfl⟩
  have HN0 := hide hn0
  obtain ⟨W0, hW0⟩ : ∃ W0, W0 = (w.alloc (.cells #[.string A, .int .i64 0, .int .i64 1, .slice none 0 0] 76 (0, 0))).alloc (.cells #[.string ⟨#[]⟩, .int .i64 0, .int .i64 0, .slice none 0 0] 76 (0, 0)) := ⟨_, rfl⟩
  have HW := hide hW0
  have HB : Hid (Below w.heap.size w W0) := hide (by rw [hW0]; exact bl_alloc (bl_alloc (bl_refl w) _) _)
  have HA0 : Hid (Blk W0 n0 [.string A, .int .i64 0, .int .i64 1, .slice none 0 0] 76) := hide (by rw [hW0, hn0]; exact (Blk.new w _ _).alloc _)
  have HR0 : Hid (Blk W0 (n0 + 1) [.string ⟨#[]⟩, .int .i64 0, .int .i64 0, .slice none 0 0] 76) := hide (by rw [hW0]; exact Blk.newG (by simp [hn0]) _ _)
  have HCP := hide (fun wx => copyP_any wx)
  clear hW0 hn0
  have hw0 : IntKind.i64.wrap 0 = 0 := wrap_ok (by omega) (by omega)
  have hw1 : IntKind.i64.wrap 1 = 1 := wrap_ok (by omega) (by omega)
  go_enter Tryz.func70, Tryz.ntmps70
  go_wp2_with fail
  rw [← HW.out, ← HN0.out]
  refine wp_region_K 14 (by kernel_rfl) (by kernel_rfl) (fun Q HQ => ?_)
  simp only [List.take_succ_cons, List.take_zero, List.map_cons, List.map_nil]
  repeat
    first
    | (refine wpS_skip (b := true) rfl (guard_mk rfl rfl) ?_)
    | (refine wpS_skip (b := false) rfl (guard_mk rfl rfl) ?_)
    | (refine wpS_skipU rfl (guardU_mk rfl rfl) ?_)
    | (first | apply wpS_c rfl | apply wpS_gc rfl (guard_mk rfl rfl)
       focus
         intro ev wx hC hx
         (try simp [Op.operands, Call.operands, opndS, Slot.holds] at hx)
         have z0 := hC.cell (HA0.out.cell (k := 0) rfl)
         have z1 := hC.cell (HA0.out.cell (k := 1) rfl)
         have z2 := hC.cell (HA0.out.cell (k := 2) rfl)
         have z3 := hC.cell (HA0.out.cell (k := 3) rfl)
         go_simp
         try (first | exact rfl | exact ⟨Below.refl _ _, rfl⟩ | ((refine (HCP.out wx).mono ?_; rintro e w' ⟨rfl, rfl⟩; exact ⟨rfl, Below.refl _ _⟩)))
         done)
    dsimp only [setS, List.set]
  refine wpS_nil (HQ _ fun w3 hC3 => ?_)
  simp only [closeS, List.drop_succ_cons, List.drop_zero, List.drop_nil]
  have HR3 := hide (HR0.out.below hC3.below)
  have HB3 := hide (HB.out.trans (hC3.below.mono HB.out.size))
  have HN := hide (show w.heap.size ≤ n0 + 1 by have := HN0.out; omega)
  clear HQ hC3 hw0 hw1
  have z0 := HR3.out.cell (k := 0) rfl
  have z1 := HR3.out.cell (k := 1) rfl
  have z2 := HR3.out.cell (k := 2) rfl
  have z3 := HR3.out.cell (k := 3) rfl
  have y0 := HR3.out.fr 0
  have y1 := HR3.out.fr 1
  have y2 := HR3.out.fr 2
  have y3 := HR3.out.fr 3
  have HR4 := hide ((((HR3.out.set 0 (.string A)).set 1 (.int .i64 0)).set 2 (.int .i64 1)).set 3 (.slice none 0 0))
  have v0 := HR4.out.cell (k := 0) rfl
  have v1 := HR4.out.cell (k := 1) rfl
  have v2 := HR4.out.cell (k := 2) rfl
  have v3 := HR4.out.cell (k := 3) rfl
  go_wp2
  refine bodyPost_ret (v := .agg #[.string A, .int .i64 0, .int .i64 1, .slice none 0 0]) (by simp [results, Tryz.results70, go_sem, v0, v1, v2, v3]) rfl ⟨rfl, ?_⟩
  exact bl_set (bl_set (bl_set (bl_set HB3.out (p := ⟨n0 + 1, 0, none⟩) HN.out _) (p := ⟨n0 + 1, 1, none⟩) HN.out _) (p := ⟨n0 + 1, 2, none⟩) HN.out _) (p := ⟨n0 + 1, 3, none⟩) HN.out _
def SortRP (A : ByteArray) (w : World) (e : Ending) (w' : World) : Prop := ∃ v, e = .returned v ∧ w'.ownsRow w.heap.size 76 4 v 1 [.string A, .int .i64 0, .int .i64 1, .slice none 0 0] ∧ Below w.heap.size w w'
set_option maxHeartbeats 8000000 in
set_option maxRecDepth 100000 in
theorem sortR_any (a : Option Addr) (cp : Nat) (A : ByteArray) (w : World) (h : Rd w a [.string A, .int .i64 0, .int .i64 1, .slice none 0 0]) : Calls Tryz.prog 42 #[.slice a 1 cp] w (SortRP A w) := by
  obtain ⟨i2, hi2, hz0, hz1, hz2⟩ := info_parts info_region
  obtain ⟨b, o, rfl, hb, hc⟩ := h.open_ (by simp)
  have e0 := hc 0 _ rfl
  have e1 := hc 1 _ rfl
  have e2 := hc 2 _ rfl
  have e3 := hc 3 _ rfl
  simp only [Nat.add_zero] at e0
  have HE := hide (And.intro e0 (And.intro e1 (And.intro e2 e3)))
  clear h hc e0 e1 e2 e3
  have HCR := hide (fun wx => copyR_any A wx)
  obtain ⟨r0, hr0⟩ : ∃ r, r = w.heap.size := ⟨_, rfl⟩
  have HR0 := hide hr0
  clear hr0
  go_enter Tryz.func42, Tryz.ntmps42
  go_wp2_with fail
  go_loopw [3, 9] (fun ov kv wr => Hid (kv = .int .i64 0 ∧ ov = .slice none 0 0 ∧ wr = w ∨ kv = .int .i64 1 ∧ wr.ownsRow r0 76 4 ov 1 [.string A, .int .i64 0, .int .i64 1, .slice none 0 0] ∧ Below w.heap.size w wr)) (fun _ kv _ => 1 - (intOf kv).toNat)
  case atStart => exact hide (.inl ⟨rfl, rfl, rfl⟩)
  case round =>
    rcases hrel.out with ⟨rfl, rfl, hww⟩ | ⟨rfl, hown, hb2⟩
    · obtain rfl : w = wr := hww.symm
      have k0 := HE.out.1
      have k1 := HE.out.2.1
      have k2 := HE.out.2.2.1
      have k3 := HE.out.2.2.2
      obtain ⟨W0, hW0⟩ : ∃ W0, W0 = w.alloc (.cells #[.string A, .int .i64 0, .int .i64 1, .slice none 0 0] 76 (0, 0)) := ⟨_, rfl⟩
      have HW := hide hW0
      have HB0 : Hid (Below w.heap.size w W0) := hide (by rw [hW0]; exact bl_alloc (bl_refl w) _)
      have HT0 : Hid (Blk W0 r0 [.string A, .int .i64 0, .int .i64 1, .slice none 0 0] 76) := hide (by rw [hW0, HR0.out]; exact Blk.new w _ _)
      clear hW0 hb
      go_wp2_with fail
      rw [← HW.out, ← HR0.out]
      clear k0 k1 k2 k3
      go_loopw [6] (fun iv wx => Hid (iv = .int .i64 0 ∧ wx = W0)) (fun _ _ => 0)
      case atStart => exact hide ⟨rfl, rfl⟩
      case round =>
        obtain ⟨rfl, hwx⟩ := hrel.out
        obtain rfl : W0 = wr := hwx.symm
        go_wp2_with fail
        go_quiet ((go_at_call 69; fail))
        obtain ⟨w1, hw1⟩ : ∃ w1, w1 = W0.drewN nq := ⟨_, rfl⟩
        have HB1 : Hid (Below w.heap.size w w1) := hide (by rw [hw1]; exact bl_drewN HB0.out nq)
        have HT1 : Hid (Blk w1 r0 [.string A, .int .i64 0, .int .i64 1, .slice none 0 0] 76) := hide (by rw [hw1]; exact HT0.out)
        rw [← hw1]
        clear hw1
        have HRL := hide (rd_lit w1 #[.string ⟨#[]⟩, .int .i64 0, .int .i64 0, .slice none 0 0] 76 (0, 0))
        have HA := hide (bl_alloc HB1.out (.cells #[.string ⟨#[]⟩, .int .i64 0, .int .i64 0, .slice none 0 0] 76 (0, 0)))
        have HTA := hide (HT1.out.alloc (.cells #[.string ⟨#[]⟩, .int .i64 0, .int .i64 0, .slice none 0 0] 76 (0, 0)))
        have HSA := hide (show r0 + 1 ≤ (w1.alloc (.cells #[.string ⟨#[]⟩, .int .i64 0, .int .i64 0, .slice none 0 0] 76 (0, 0))).heap.size by have := HT1.out.lt; simp; omega)
        go_wp2_with (at_builtin; go_loud (refine wpList_append_rd _ rfl (.tmp 29) (.tmp 31) 25 rfl (r0 + 1) 76 i2 _ 4 56 Tryz.underlying25 hi2 hz0 hz1 hz2 rfl (by decide) (.slice none 0 0) 0 [] rfl (World.ownsRow_nil _ _ _ _) (some ⟨w1.heap.size, 0, none⟩) 1 1 [.string ⟨#[]⟩, .int .i64 0, .int .i64 0, .slice none 0 0] rfl rfl HRL.out (by intro u hu; simp at hu; rcases hu with rfl | rfl | rfl <;> rfl) (by simp only [maxLen]; omega) (by omega) HSA.out ?_; intro v2 w2 hown hg1 hat1; obtain ⟨g, c2, hv, hcc, hgb, hgl⟩ := ownG_pos hown (by omega); subst hv; have HB2 := hide (bl_grown HA.out hg1 (fun k hk => by cases hk)); have HT2 := hide (Blk.grown HTA.out hg1 (by simp [Value.ownBlock])); have HO2 := hide hown; have HG := hide (And.intro hcc (And.intro hgb hgl)); clear hown hg1 hat1 hcc hgb hgl))
        have hcc : (1 : Int) ≤ (c2 : Int) := by have := HG.out.1; omega
        have hw1 : IntKind.i64.wrap 1 = 1 := wrap_ok (by omega) (by omega)
        by_cases hc1 : c2 = 1
        · subst hc1
          refine wp_region_K 7 (by kernel_rfl) (by kernel_rfl) (fun Q HQ => ?_)
          simp only [List.take_succ_cons, List.take_zero, List.map_cons, List.map_nil]
          repeat
            first
            | (refine wpS_skip (b := true) rfl (guard_mk rfl rfl) ?_)
            | (refine wpS_skip (b := false) rfl (guard_mk rfl rfl) ?_)
            | (refine wpS_skipU rfl (guardU_mk rfl rfl) ?_)
            | (first | apply wpS_c rfl | apply wpS_gc rfl (guard_mk rfl rfl)
               focus
                 intro ev wx hC hx
                 (try simp [Op.operands, Call.operands, opndS, Slot.holds] at hx)
                 go_simp
                 try (first | exact rfl | exact ⟨Below.refl _ _, rfl⟩)
                 done)
            dsimp only [setS, List.set]
          refine wpS_nil (HQ _ fun w3 hC3 => ?_)
          simp only [closeS, List.drop_succ_cons, List.drop_zero, List.drop_nil]
          have HB3 := hide (HB2.out.trans (hC3.below.mono HB2.out.size))
          have HT3 := hide (HT2.out.below hC3.below)
          have HO3 := hide (ownG_below HO2.out hC3.below)
          have HG3 := hide hC3.below.size
          clear HQ hC3
          have hcp : ∀ (wx : World) (d a : Option Addr) (dc sl sc : Nat) (ty : TypeId), (Builtin.copy_ #[25, 25] ty #[.slice d 0 dc, .slice a sl sc]).run Tryz.prog wx = .ok (.int .i64 0) wx := fun wx d a dc sl sc ty => run_copy0 wx 25 25 ty 76 d a dc sl sc i2 Tryz.underlying25 hi2
          have k0 := HT3.out.cell (k := 0) rfl
          have k1 := HT3.out.cell (k := 1) rfl
          have k2 := HT3.out.cell (k := 2) rfl
          have k3 := HT3.out.cell (k := 3) rfl
          go_wp2_with fail
          clear k0 k1 k2 k3
          refine (HCR.out _).mono ?_
          rintro e w4 ⟨rfl, hb4⟩
          have HO4a := hide (ownG_below HO3.out hb4)
          have HB4a := hide (HB3.out.trans (hb4.mono HB3.out.size))
          clear hb4
          obtain ⟨m0, f0⟩ := ownG_at (k := 0) HO4a.out rfl
          obtain ⟨m1, f1⟩ := ownG_at (k := 1) HO4a.out rfl
          obtain ⟨m2, f2⟩ := ownG_at (k := 2) HO4a.out rfl
          obtain ⟨m3, f3⟩ := ownG_at (k := 3) HO4a.out rfl
          have HO4 := hide (ownG_set (ownG_set (ownG_set (ownG_set HO4a.out 0 (.string A)) 1 (.int .i64 0)) 2 (.int .i64 1)) 3 (.slice none 0 0))
          have hgw : w.heap.size ≤ g := by have := HG.out.2.1; have := HR0.out; omega
          have HB4 := hide (bl_set (bl_set (bl_set (bl_set HB4a.out (p := ⟨g, 0, none⟩) hgw (.string A)) (p := ⟨g, 1, none⟩) hgw (.int .i64 0)) (p := ⟨g, 2, none⟩) hgw (.int .i64 1)) (p := ⟨g, 3, none⟩) hgw (.slice none 0 0))
          clear hgw
          go_wp2
          go_roundw
          case rel => exact hide (.inr ⟨rfl, ownG_mono HO4.out (by omega), HB4.out⟩)
          case measure => simp [intOf]
        · have hc1' : ¬ (c2 : Int) = 1 := by omega
          refine wp_region_K 7 (by kernel_rfl) (by kernel_rfl) (fun Q HQ => ?_)
          simp only [List.take_succ_cons, List.take_zero, List.map_cons, List.map_nil]
          repeat
            first
            | (refine wpS_skip (b := true) rfl (guard_mk rfl rfl) ?_)
            | (refine wpS_skip (b := false) rfl (guard_mk rfl rfl) ?_)
            | (refine wpS_skipU rfl (guardU_mk rfl rfl) ?_)
            | (first | apply wpS_c rfl | apply wpS_gc rfl (guard_mk rfl rfl)
               focus
                 intro ev wx hC hx
                 (try simp [Op.operands, Call.operands, opndS, Slot.holds] at hx)
                 go_simp
                 try (first | exact rfl | exact ⟨Below.refl _ _, rfl⟩)
                 done)
            dsimp only [setS, List.set]
          refine wpS_nil (HQ _ fun w3 hC3 => ?_)
          simp only [closeS, List.drop_succ_cons, List.drop_zero, List.drop_nil]
          have HB3 := hide (HB2.out.trans (hC3.below.mono HB2.out.size))
          have HT3 := hide (HT2.out.below hC3.below)
          have HO3 := hide (ownG_below HO2.out hC3.below)
          have HG3 := hide hC3.below.size
          clear HQ hC3
          have hcp : ∀ (wx : World) (d a : Option Addr) (dc sl sc : Nat) (ty : TypeId), (Builtin.copy_ #[25, 25] ty #[.slice d 0 dc, .slice a sl sc]).run Tryz.prog wx = .ok (.int .i64 0) wx := fun wx d a dc sl sc ty => run_copy0 wx 25 25 ty 76 d a dc sl sc i2 Tryz.underlying25 hi2
          have k0 := HT3.out.cell (k := 0) rfl
          have k1 := HT3.out.cell (k := 1) rfl
          have k2 := HT3.out.cell (k := 2) rfl
          have k3 := HT3.out.cell (k := 3) rfl
          go_wp2_with fail
          clear k0 k1 k2 k3
          refine (HCR.out _).mono ?_
          rintro e w4 ⟨rfl, hb4⟩
          have HO4a := hide (ownG_below HO3.out hb4)
          have HB4a := hide (HB3.out.trans (hb4.mono HB3.out.size))
          clear hb4
          obtain ⟨m0, f0⟩ := ownG_at (k := 0) HO4a.out rfl
          obtain ⟨m1, f1⟩ := ownG_at (k := 1) HO4a.out rfl
          obtain ⟨m2, f2⟩ := ownG_at (k := 2) HO4a.out rfl
          obtain ⟨m3, f3⟩ := ownG_at (k := 3) HO4a.out rfl
          have HO4 := hide (ownG_set (ownG_set (ownG_set (ownG_set HO4a.out 0 (.string A)) 1 (.int .i64 0)) 2 (.int .i64 1)) 3 (.slice none 0 0))
          have hgw : w.heap.size ≤ g := by have := HG.out.2.1; have := HR0.out; omega
          have HB4 := hide (bl_set (bl_set (bl_set (bl_set HB4a.out (p := ⟨g, 0, none⟩) hgw (.string A)) (p := ⟨g, 1, none⟩) hgw (.int .i64 0)) (p := ⟨g, 2, none⟩) hgw (.int .i64 1)) (p := ⟨g, 3, none⟩) hgw (.slice none 0 0))
          clear hgw
          go_wp2
          go_roundw
          case rel => exact hide (.inr ⟨rfl, ownG_mono HO4.out (by omega), HB4.out⟩)
          case measure => simp [intOf]
    · have HO := hide hown
      obtain ⟨v2, c2, hv, _, _⟩ := ownG_form hown
      subst hv
      have HB2 := hide hb2
      clear hown hb2
      go_wp2
      go_ret
      exact ⟨_, rfl, by rw [← HR0.out]; exact HO.out, HB2.out⟩
end Go.Proofs.YtbpkclopcoaikaaGreatDoor
