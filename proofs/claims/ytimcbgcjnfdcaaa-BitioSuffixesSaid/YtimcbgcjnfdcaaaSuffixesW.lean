/- The walk of the law BitioSuffixes. -/
import Derived.Test.YtimcbgcjnfdcaaaTwoW
namespace Go.Proofs.Ytimcbgcjnfdcaaa
open Go.RowKit
set_option linter.unusedVariables false
set_option linter.unusedSimpArgs false
def SufG (w : World) (g d q : Nat) (O : Obj) (l m bits : List Bool) (L : Nat → Bool) (wx : World) : Prop :=
  (∃ r1 r2, Thr g g d q O wx r1 r2 (l ++ m ++ (if L 2 then bits else [])) (m ++ (if L 5 then bits else []))) ∧ Below w.heap.size w wx
def SufA (w : World) (g d q : Nat) (O : Obj) (l m bits : List Bool) (wx : World) : Prop := ∃ L, SufG w g d q O l m bits L wx
theorem SufA.cell {w : World} {g d q : Nat} {cs : Array Value} {t : TypeId} {l m bits : List Bool} {wx : World} (h : SufA w g d q (.cells cs t (0, 0)) l m bits wx) (j : Nat) : wx.cell? ⟨q, j, none⟩ = cs[j]? := by
  obtain ⟨L, ⟨r1, r2, h⟩, _⟩ := h
  exact cell_of_row wx q j cs t (0, 0) h.hq
theorem SufG.call1 {w : World} {g d q : Nat} {O : Obj} {l m bits : List Bool} {L : Nat → Bool} {wx : World} (h : SufG w g d q O l m bits L wx) (hL : L 2 = false) (hg : g = w.heap.size) (hlm : (l ++ m).length ≤ 80000 ∧ m.length ≤ 40000) (k n : Int) (vn : Nat) (hvb : vn < 2 ^ 64) (hb : bits = (wCall k vn n).getD []) :
    Calls Try.prog 25 #[.pointer (some ⟨g, 0, none⟩), .agg #[.int .i64 k, .int .u64 (vn : Int), .int .i64 n]] wx fun e w' => ∃ v, e = .returned v ∧ SufG w g d q O l m bits (upL L 2) w' ∧ v = .int .i64 (cod (wCall k vn n)) := by
  obtain ⟨⟨r1, r2, ht⟩, hbl⟩ := h
  rw [hL] at ht
  simp only [Bool.false_eq_true, if_false, List.append_nil] at ht
  have hbs : g ≤ wx.heap.size := Nat.le_of_lt ht.h1.lt.1
  refine (lwrite_any g g r1 (l ++ m) k vn n vn wx rfl hvb ht.h1 (by omega) hbs).mono ?_
  rintro e w' ⟨rfl, hst⟩
  obtain ⟨r1', ht'⟩ := ht.step hst
  refine ⟨_, rfl, ⟨⟨r1', r2, ?_⟩, ?_⟩, rfl⟩
  · rw [← hb] at ht'
    simpa [upL] using ht'
  · have h1 := hst.below ht.h1 hbs
    rw [hg] at h1
    exact hbl.trans h1
theorem SufG.call2 {w : World} {g d q : Nat} {O : Obj} {l m bits : List Bool} {L : Nat → Bool} {wx : World} (h : SufG w g d q O l m bits L wx) (hL : L 5 = false) (hg : g = w.heap.size) (hlm : (l ++ m).length ≤ 80000 ∧ m.length ≤ 40000) (k n : Int) (vn : Nat) (hvb : vn < 2 ^ 64) (hb : bits = (wCall k vn n).getD []) :
    Calls Try.prog 25 #[.pointer (some ⟨d, 0, none⟩), .agg #[.int .i64 k, .int .u64 (vn : Int), .int .i64 n]] wx fun e w' => ∃ v, e = .returned v ∧ SufG w g d q O l m bits (upL L 5) w' ∧ v = .int .i64 (cod (wCall k vn n)) := by
  obtain ⟨⟨r1, r2, ht⟩, hbl⟩ := h
  rw [hL] at ht
  simp only [Bool.false_eq_true, if_false, List.append_nil] at ht
  have hbs : g ≤ wx.heap.size := Nat.le_of_lt ht.h1.lt.1
  refine (lwrite_any g d r2 m k vn n vn wx rfl hvb ht.h2 (by omega) hbs).mono ?_
  rintro e w' ⟨rfl, hst⟩
  obtain ⟨r2', ht'⟩ := ht.swap.step hst
  refine ⟨_, rfl, ⟨⟨r1, r2', ?_⟩, ?_⟩, rfl⟩
  · rw [← hb] at ht'
    simpa [upL] using ht'.swap
  · have h1 := hst.below ht.h2 hbs
    rw [hg] at h1
    exact hbl.trans h1
namespace bitioSuffixes
set_option maxHeartbeats 2000000 in
set_option maxRecDepth 100000 in
theorem walk (a : Option Addr) (len cap : Nat) (cs : List (Int × Nat × Int)) (a2 : Option Addr) (len2 cap2 : Nat) (cs2 : List (Int × Nat × Int)) (w : World) (hcs : IsCalls w a len cs) (hcs2 : IsCalls w a2 len2 cs2) :
    Calls Try.prog 9 #[.slice a len cap, .slice a2 len2 cap2] w fun e w' => e = .returned (.bool true) ∧ Below w.heap.size w w' := by
  have HC := hide hcs
  have HC2 := hide hcs2
  clear hcs hcs2
  go_enter Try.func9, Try.ntmps9
  go_wp2_with fail
  refine (newwriter_any w).mono ?_
  rintro e w1 ⟨rfl, hs1, hb1⟩
  have hg1 : w.heap.size < w1.heap.size := hs1.lt.1
  have HS1 := hide hs1
  clear hs1
  go_wp2_with fail
  refine (newwriter_any w1).mono ?_
  rintro e w2 ⟨rfl, hs2, hb2⟩
  obtain ⟨g, hg⟩ : ∃ g, g = w.heap.size := ⟨_, rfl⟩
  obtain ⟨d, hd⟩ : ∃ d, d = w1.heap.size := ⟨_, rfl⟩
  rw [← hg, ← hd]
  have htwo : Two g g d w2 none none [] [] := by
    rw [hg, hd]
    exact ⟨HS1.out.below hb2, hs2.base hb1.size, by simp, by simp, fun k h => by simp at h, by omega⟩
  have hbw := bl_trans hb1 hb2
  have HG := hide hg
  have HD := hide hd
  have HT := hide htwo
  have hgd : g < w2.heap.size := htwo.h1.lt.1
  clear hs2 hg hd htwo
  by_cases h8 : 8 < len
  · go_wp2
    go_ret
    exact ⟨rfl, hbw⟩
  by_cases h9 : 8 < len2
  · go_wp2
    go_ret
    exact ⟨rfl, hbw⟩
  go_wp2_with fail
  go_loopw [35] (fun i wr => ∃ (k : Nat) (l : List Bool) (r : Option Nat), i = .int .i64 (k : Int) ∧ k ≤ len ∧ l.length ≤ k * 5000 ∧ Two g g d wr r none l [] ∧ Below w.heap.size w wr) (fun i _ => len - (intOf i).toNat)
  case atStart => exact ⟨0, [], none, rfl, Nat.zero_le _, Nat.zero_le _, HT.out, hbw⟩
  case round =>
    obtain ⟨k, l, r, rfl, hk, hl, htw, hb⟩ := hrel
    have HTW := hide htw
    have HLL := hide hl
    clear htw hl
    by_cases hlt : k < len
    · obtain ⟨b, o, ⟨c0, c1, c2⟩, rfl, hbl, hck, hc1, e0, e1, e2⟩ := (HC.out.below hb).at_ hlt
      simp only [] at hc1 e0 e1 e2
      have HC1 := hide hc1
      have hbits := wCall_length c0 c1 c2 hc1
      clear hc1 hck
      obtain ⟨W1, hW1⟩ : ∃ W, W = wr.alloc (.cells #[.int .i64 c0, .int .u64 (c1 : Int), .int .i64 c2] 44) := ⟨_, rfl⟩
      have hbl1 : Below wr.heap.size wr W1 := by rw [hW1]; exact bl_alloc (bl_refl wr) _
      go_wp2_with fail
      rw [← hW1]
      have htw1 := HTW.out.below hbl1
      refine (lwrite_any g g r l c0 c1 c2 c1 W1 rfl HC1.out htw1.h1 (by have := HLL.out; omega) (Nat.le_of_lt htw1.h1.lt.1)).mono ?_
      rintro e w3 ⟨rfl, hst⟩
      obtain ⟨r3, ht3, _⟩ := htw1.step hst
      have hb3 : Below w.heap.size w w3 := by
        have h1 := hst.below htw1.h1 (Nat.le_of_lt htw1.h1.lt.1)
        rw [HG.out] at h1
        exact (hb.trans (hbl1.mono hb.size)).trans h1
      have HT3 := hide ht3
      clear hst ht3 htw1
      go_wp2
      go_roundw
      case rel => exact ⟨k + 1, _, r3, by go_num, by omega, by have := HLL.out; rw [List.length_append]; omega, HT3.out, hb3⟩
      case measure => simp [intOf]; omega
    · obtain rfl : k = len := by omega
      obtain ⟨n, hn⟩ : ∃ n, n = l.length := ⟨_, rfl⟩
      have hn' : n ≤ 40000 := by have := HLL.out; omega
      go_wp2_with fail
      refine (wlen_any g g r l wr HTW.out.h1 (by omega)).mono ?_
      rintro e w' ⟨rfl, rfl⟩
      rw [← hn]
      have HN := hide hn
      clear hn HLL
      go_wp2_with fail
      go_loopw [47] (fun i wr => ∃ (k : Nat) (m : List Bool) (r1 r2 : Option Nat), i = .int .i64 (k : Int) ∧ k ≤ len2 ∧ m.length ≤ k * 5000 ∧ Two g g d wr r1 r2 (l ++ m) m ∧ Below w.heap.size w wr) (fun i _ => len2 - (intOf i).toNat)
      case atStart => exact ⟨0, [], r, none, rfl, Nat.zero_le _, Nat.zero_le _, by simpa using HTW.out, hb⟩
      case round =>
        clear HTW hb
        obtain ⟨k, m, r1, r2, rfl, hk, hm, htw, hb⟩ := hrel
        have HTW := hide htw
        have HLL := hide hm
        clear htw hm
        by_cases hlt : k < len2
        · obtain ⟨b, o, ⟨c0, c1, c2⟩, rfl, hbl, hck, hc1, e0, e1, e2⟩ := (HC2.out.below hb).at_ hlt
          simp only [] at hc1 e0 e1 e2
          have HC1 := hide hc1
          have hbits := wCall_length c0 c1 c2 hc1
          clear hc1 hck
          obtain ⟨W1, hW1⟩ : ∃ W, W = wr.alloc (.cells #[.int .i64 c0, .int .u64 (c1 : Int), .int .i64 c2] 44) := ⟨_, rfl⟩
          have hbl1 : Below wr.heap.size wr W1 := by rw [hW1]; exact bl_alloc (bl_refl wr) _
          go_wp2_with fail
          rw [← hW1]
          obtain ⟨q, hq⟩ : ∃ q, q = wr.heap.size := ⟨_, rfl⟩
          have hthr : Thr g g d q (.cells #[.int .i64 c0, .int .u64 (c1 : Int), .int .i64 c2] 44 (0, 0)) W1 r1 r2 (l ++ m) m := by
            refine ⟨HTW.out.below hbl1, by rw [hq, hW1]; exact heap_alloc_new wr _, fun h => ?_, fun h => ?_, ?_, ?_⟩
            · have := (HTW.out.h1.lt.2.2 _ h).2; omega
            · have := (HTW.out.h2.lt.2.2 _ h).2; omega
            · have := HTW.out.h1.lt.1; omega
            · have := HTW.out.h2.lt.1; omega
          have hbw1 : Below w.heap.size w W1 := hb.trans (hbl1.mono hb.size)
          rw [← hq]
          obtain ⟨bits, hbt⟩ : ∃ bits, bits = (wCall c0 c1 c2).getD [] := ⟨_, rfl⟩
          rw [← hbt] at hbits
          have HBT := hide hbt
          have hlm : (l ++ m).length ≤ 80000 ∧ m.length ≤ 40000 := by
            have := HLL.out; have := HN.out
            rw [List.length_append]
            constructor <;> omega
          have HLM := hide hlm
          clear hbt hq hW1 hlm HTW e0 e1 e2
          obtain ⟨O, hO⟩ : ∃ O, O = Obj.cells #[.int .i64 c0, .int .u64 (c1 : Int), .int .i64 c2] 44 (0, 0) := ⟨_, rfl⟩
          have f0 : ∀ wx, SufA w g d q O l m bits wx → wx.cell? ⟨q, 0, none⟩ = some (.int .i64 c0) := fun wx h => by subst hO; exact h.cell 0
          have f1 : ∀ wx, SufA w g d q O l m bits wx → wx.cell? ⟨q, 1, none⟩ = some (.int .u64 (c1 : Int)) := fun wx h => by subst hO; exact h.cell 1
          have f2 : ∀ wx, SufA w g d q O l m bits wx → wx.cell? ⟨q, 2, none⟩ = some (.int .i64 c2) := fun wx h => by subst hO; exact h.cell 2
          rw [← hO] at hthr
          clear hO
          have hstart : SufG w g d q O l m bits (fun _ => false) W1.drew := ⟨⟨r1, r2, ⟨by simpa using hthr.toTwo.below (bl_drew (bl_refl W1)), hthr.hq, hthr.q1, hthr.q2, hthr.qg, hthr.qd⟩⟩, hbw1.drew⟩
          refine wp_region_G 7 (SufG w g d q O l m bits) (by kernel_rfl) (by kernel_rfl) hstart (fun Q HQ => ?_)
          simp only [List.take_succ_cons, List.take_zero, List.map_cons, List.map_nil]
          repeat
            first | apply wpG_c rfl | apply wpG_gc rfl (guard_mk rfl rfl)
            focus
              intro L ev wx hG hL hM hx
              (try simp [Op.operands, Call.operands, opndS, Slot.holds] at hx)
              have hC : SufA w g d q O l m bits wx := ⟨_, hG⟩
              go_simp
              try (first | exact ⟨hG, rfl⟩)
              done
            dsimp only [setS, List.set]
          apply wpG_c rfl
          focus
            intro L ev wx hG hL hM hx
            (try simp [Op.operands, Call.operands, opndS, Slot.holds] at hx)
            go_simp
            exact hG.call1 hL HG.out HLM.out c0 c2 c1 HC1.out HBT.out
          dsimp only [setS, List.set]
          repeat
            first | apply wpG_c rfl | apply wpG_gc rfl (guard_mk rfl rfl)
            focus
              intro L ev wx hG hL hM hx
              (try simp [Op.operands, Call.operands, opndS, Slot.holds] at hx)
              have hC : SufA w g d q O l m bits wx := ⟨_, hG⟩
              go_simp
              try (first | exact ⟨hG, rfl⟩)
              done
            dsimp only [setS, List.set]
          apply wpG_c rfl
          focus
            intro L ev wx hG hL hM hx
            (try simp [Op.operands, Call.operands, opndS, Slot.holds] at hx)
            go_simp
            exact hG.call2 hL HG.out HLM.out c0 c2 c1 HC1.out HBT.out
          dsimp only [setS, List.set]
          repeat
            first | apply wpG_c rfl | apply wpG_gc rfl (guard_mk rfl rfl)
            focus
              intro L ev wx hG hL hM hx
              (try simp [Op.operands, Call.operands, opndS, Slot.holds] at hx)
              have hC : SufA w g d q O l m bits wx := ⟨_, hG⟩
              go_simp
              try (first | exact ⟨hG, rfl⟩)
              done
            dsimp only [setS, List.set]
          refine wpG_nil (HQ _ fun w3 hG3 => ?_)
          simp only [closeS, List.drop_succ_cons, List.drop_zero, List.drop_nil]
          clear HQ f0 f1 f2 hstart hthr
          obtain ⟨⟨r1', r2', ht3⟩, hb3⟩ := hG3
          have ht4 : Thr g g d q O w3 r1' r2' (l ++ m ++ bits) (m ++ bits) := ht3
          have HT4 := hide ht4.toTwo
          clear ht3 ht4
          go_wp2
          go_roundw
          case rel => exact ⟨k + 1, m ++ bits, r1', r2', by go_num, by omega, by have := HLL.out; rw [List.length_append]; omega, by rw [← List.append_assoc]; exact HT4.out, hb3⟩
          case measure => simp [intOf]; omega
        · obtain rfl : k = len2 := by omega
          obtain ⟨p, hp⟩ : ∃ p, p = m.length := ⟨_, rfl⟩
          have hp' : p ≤ 40000 := by have := HLL.out; omega
          have hlm : (l ++ m).length = n + p := by rw [List.length_append, ← hp, ← HN.out]
          have HP := hide hp
          have HLM := hide hlm
          have hgw : g ≤ wr.heap.size := Nat.le_of_lt HTW.out.h1.lt.1
          clear hp hlm HLL
          go_wp2_with fail
          refine (wbytes_any g g r1 (l ++ m) wr HTW.out.h1 (by rw [HLM.out]; omega) hgw).mono ?_
          rintro e w3 ⟨v3, rfl, hown3, hb3⟩
          obtain ⟨hx1, a3, c3, rfl, hx2, hrd3, hx3⟩ := own_form hown3
          obtain ⟨n3, hn3⟩ : ∃ n, n = (packL (l ++ m)).length := ⟨_, rfl⟩
          rw [← hn3]
          have e3 : ((n : Int) + (p : Int) + 7) / 8 = (n3 : Int) := by rw [hn3, packL_length, HLM.out]; unfold nby; omega
          have H3 := hide (And.intro hn3 hrd3)
          clear hx1 hx2 hx3 hown3 hrd3 hn3
          have htw3 := HTW.out.below hb3
          go_wp2_with fail
          refine (wbytes_any g d r2 m w3 htw3.h2 (by rw [← HP.out]; omega) (Nat.le_trans hgw hb3.size)).mono ?_
          rintro e w4 ⟨v4, rfl, hown4, hb4⟩
          obtain ⟨hx1, a4, c4, rfl, hx2, hrd4, hx3⟩ := own_form hown4
          obtain ⟨n4, hn4⟩ : ∃ n, n = (packL m).length := ⟨_, rfl⟩
          rw [← hn4]
          have e4 : ((p : Int) + 7) / 8 = (n4 : Int) := by rw [hn4, packL_length, ← HP.out]; unfold nby; omega
          have hn4l : p ≤ 8 * n4 := by omega
          have hn3l : n + p ≤ 8 * n3 := by omega
          have hn3m : n3 ≤ n + p + 8 := by omega
          have hn4m : n4 ≤ p + 8 := by omega
          have H4 := hide (And.intro hn4 hrd4)
          have HR3 := hide (H3.out.2.below hb4)
          have HT4 := hide (htw3.below hb4)
          have hb04 : Below w.heap.size w w4 := hb.trans ((bl_trans hb3 hb4).mono hb.size)
          clear hx1 hx2 hx3 hown4 hrd4 hn4 htw3
          go_wp2_with fail
          refine (wlen_any g g r1 (l ++ m) w4 HT4.out.h1 (by rw [HLM.out]; omega)).mono ?_
          rintro e w' ⟨rfl, rfl⟩
          have hci : (((l ++ m).length : Nat) : Int) = (n : Int) + (p : Int) := by rw [HLM.out]; omega
          rw [hci]
          clear hci
          go_wp2_with fail
          refine (wlen_any g d r2 m w4 HT4.out.h2 (by rw [← HP.out]; omega)).mono ?_
          rintro e w' ⟨rfl, rfl⟩
          rw [← HP.out]
          go_wp2_with fail
          refine (wlen_any g g r1 (l ++ m) w4 HT4.out.h1 (by rw [HLM.out]; omega)).mono ?_
          rintro e w' ⟨rfl, rfl⟩
          have hci : (((l ++ m).length : Nat) : Int) = (n : Int) + (p : Int) := by rw [HLM.out]; omega
          rw [hci]
          clear hci
          go_wp2_with fail
          refine (wlen_any g d r2 m w4 HT4.out.h2 (by rw [← HP.out]; omega)).mono ?_
          rintro e w' ⟨rfl, rfl⟩
          rw [← HP.out]
          go_wp2_with fail
          refine (wlen_any g g r1 (l ++ m) w4 HT4.out.h1 (by rw [HLM.out]; omega)).mono ?_
          rintro e w' ⟨rfl, rfl⟩
          have hci : (((l ++ m).length : Nat) : Int) = (n : Int) + (p : Int) := by rw [HLM.out]; omega
          rw [hci]
          clear hci
          obtain ⟨N, hN⟩ : ∃ N, N = n + p := ⟨_, rfl⟩
          have hN2 : n + p = N := hN.symm
          have HN2 := hide hN2
          go_wp2_with fail
          refine (unpack_ref a3 n3 c3 (packL (l ++ m)) _ N w4 (by omega) H3.out.1 (by omega) (by omega) HR3.out).mono ?_
          rintro e w5 ⟨v5, rfl, hown5, hb5⟩
          have hup := unpack_pack (l ++ m)
          rw [HLM.out, HN2.out] at hup
          rw [hup] at hown5
          obtain ⟨hx1, a5, c5, rfl, hx2, hrd5, hx3⟩ := own_form hown5
          have H5 := hide hrd5
          clear hx1 hx2 hx3 hown5 hrd5 hup hN hN2
          have ht5 := HT4.out.below hb5
          have HT5 := hide ht5
          clear ht5
          go_wp2_with fail
          refine (wlen_any g d r2 m w5 HT5.out.h2 (by rw [← HP.out]; omega)).mono ?_
          rintro e w' ⟨rfl, rfl⟩
          rw [← HP.out]
          go_wp2_with fail
          refine (unpack_ref a4 n4 c4 (packL m) p p w5 rfl H4.out.1 (by omega) hn4l (H4.out.2.below hb5)).mono ?_
          rintro e w6 ⟨v6, rfl, hown6, hb6⟩
          have hup := unpack_pack m
          rw [← HP.out] at hup
          rw [hup] at hown6
          obtain ⟨hx1, a6, c6, rfl, hx2, hrd6, hx3⟩ := own_form hown6
          have H6 := hide hrd6
          have H56 := hide (H5.out.below hb6)
          have hb06 : Below w.heap.size w w6 := hb04.trans ((bl_trans hb5 hb6).mono hb04.size)
          clear hx1 hx2 hx3 hown6 hrd6 hup e3 e4
          go_wp2_with fail
          go_loopw [98] (fun i wr => ∃ (k : Nat), i = .int .i64 (k : Int) ∧ k ≤ p ∧ Below w6.heap.size w6 wr) (fun i _ => p - (intOf i).toNat)
          case atStart => exact ⟨0, rfl, Nat.zero_le _, bl_refl w6⟩
          case round =>
            obtain ⟨j, rfl, hj, hbj⟩ := hrel
            by_cases hlt : j < p
            · obtain ⟨x, hx⟩ : ∃ x, m[j]? = some x := ⟨m[j]'(by rw [← HP.out]; exact hlt), List.getElem?_eq_getElem _⟩
              obtain ⟨t, ht⟩ : ∃ t, t = n + j := ⟨_, rfl⟩
              have hx2 : (l ++ m)[t]? = some x := by
                rw [ht, List.getElem?_append_right (by rw [← HN.out]; omega), ← HN.out, Nat.add_sub_cancel_left]; exact hx
              obtain ⟨b5, o5, hA5, _, q5⟩ := (H56.out.below hbj).at_ (k := t) (v := .bool x) (by rw [List.getElem?_map, hx2]; rfl)
              obtain ⟨b6, o6, hA6, _, q6⟩ := (H6.out.below hbj).at_ (k := j) (v := .bool x) (by simp [hx])
              subst hA5
              subst hA6
              have et : (n : Int) + (j : Int) = (t : Int) := by omega
              have ew : IntKind.i64.wrap (t : Int) = (t : Int) := by rw [IntKind.wrap_i64]; omega
              have htN : (t : Int) < N := by have := HN2.out; omega
              have hjp : (j : Int) < p := by omega
              have HTT := hide (And.intro hx hx2)
              clear hx hx2 ht
              go_wp2_with fail
              refine wp_region_K 11 (by kernel_rfl) (by kernel_rfl) (fun Q HQ => ?_)
              simp only [List.take_succ_cons, List.take_zero, List.map_cons, List.map_nil]
              have f5 : ∀ wx, CB wr.drew wx → wx.cell? ⟨b5, o5 + t, none⟩ = some (.bool x) := fun wx h => h.cell q5
              have f6 : ∀ wx, CB wr.drew wx → wx.cell? ⟨b6, o6 + j, none⟩ = some (.bool x) := fun wx h => h.cell q6
              repeat
                first | apply wpS_c rfl | apply wpS_gc rfl (guard_mk rfl rfl)
                focus
                  intro ev wx hC hx
                  (try simp [Op.operands, Call.operands, opndS, Slot.holds] at hx)
                  go_simp
                  try (first | exact rfl | exact ⟨Below.refl _ _, rfl⟩)
                  done
                dsimp only [setS, List.set]
              refine wpS_nil (HQ _ fun w7 hC7 => ?_)
              simp only [closeS, List.drop_succ_cons, List.drop_zero, List.drop_nil]
              clear HQ f5 f6 ew
              have hb7 : Below w6.heap.size w6 w7 := bl_trans hbj hC7.below
              go_wp2
              go_roundw
              case rel => exact ⟨j + 1, by go_num, by omega, hb7⟩
              case measure => simp [intOf]; omega
            · obtain rfl : j = p := by omega
              go_wp2_with fail
              refine (awake_any _).mono ?_
              rintro e w8 ⟨rfl, hb8⟩
              go_wp2_with fail
              go_ret
              exact ⟨rfl, bl_trans (hb06.trans (hbj.mono hb06.size)) hb8⟩
end bitioSuffixes
end Go.Proofs.Ytimcbgcjnfdcaaa
