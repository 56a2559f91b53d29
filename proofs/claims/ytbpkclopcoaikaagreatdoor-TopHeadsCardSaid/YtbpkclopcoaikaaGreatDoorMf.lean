/- The walk of markup's sorted at one pair. The walk of the scanner's tag: a tag without keys; an opening tag with one key. The walk of the scanner's tag at an opening tag with one key. The walk of markup's ParseTag, where its scanner does not panic. -/
import Derived.Laws.IdiomCopy
import Derived.Test.YtbpkclopcoaikaaGreatDoorMe
import Derived.Test.YtbpkclopcoaikaaGreatDoorUPm
import Derived.Test.YtbpkclopcoaikaaGreatDoorMa
import Derived.Test.YtbpkclopcoaikaaGreatDoorMb
import Derived.Defers
import Derived.Recover
import Derived.Laws.Pointers
namespace Go.Proofs.YtbpkclopcoaikaaGreatDoor
open Go.RowKit
set_option linter.unusedVariables false
set_option linter.unusedSimpArgs false
/-- Nothing goes over to a part without elements. -/
theorem run_copy0 {P : Program} (w : World) (dT sT ty elem : TypeId) (d a : Option Addr) (dCap sLen sCap : Nat) (i : TypeInfo) (hu : P.underlying dT = some (.slice elem)) (hq : P.info? elem = some i) :
    (Builtin.copy_ #[dT, sT] ty #[.slice d 0 dCap, .slice a sLen sCap]).run P w = .ok (.int .i64 0) w := by
  have hl : ∀ (x : Addr), (loadCells x 0).run P w = .ok #[] w := fun x => by simpa using run_loadCells_list (P := P) w x [] (by simp)
  cases d <;> cases a <;> simp [Builtin.copy_, run_underlying hu, Builtin.lenOf, Builtin.firstCells, sizeOf, typeInfo, hq, storeCells, hl, goInt]
theorem ownG_mono {w : World} {base base' size : Nat} {e : TypeId} {v : Value} {n : Nat} {xs : List Value} (h : w.ownsRow base e size v n xs) (hb : base' ≤ base) : w.ownsRow base' e size v n xs :=
  ⟨h.1, h.2.imp (fun x => x) (fun ⟨g, cap, cur, e, hg, r⟩ => ⟨g, cap, cur, e, Nat.le_trans hb hg, r⟩)⟩
theorem info_pair : (Tryz.prog.info? 108).map (fun i => (i.zero, i.size, i.bytes)) = some (some (.agg #[.string ⟨#[]⟩, .string ⟨#[]⟩]), 2, 32) := by kernel_rfl
def SortP (A B : ByteArray) (w : World) (e : Ending) (w' : World) : Prop := ∃ v, e = .returned v ∧ w'.ownsRow w.heap.size 108 2 v 1 [.string A, .string B] ∧ Below w.heap.size w w'
set_option maxHeartbeats 8000000 in
set_option maxRecDepth 100000 in
theorem sorted1_any (a : Option Addr) (cp : Nat) (A B : ByteArray) (w : World) (h : Rd w a [.string A, .string B]) : Calls Tryz.prog 119 #[.slice a 1 cp] w (SortP A B w) := by
  obtain ⟨i2, hi2, hz0, hz1, hz2⟩ := info_parts info_pair
  obtain ⟨b, o, rfl, hb, hc⟩ := h.open_ (by simp)
  have e0 := hc 0 _ rfl
  have e1 := hc 1 _ rfl
  simp only [Nat.add_zero] at e0
  have HE := hide (And.intro e0 e1)
  clear h hc e0 e1
  obtain ⟨r0, hr0⟩ : ∃ r, r = w.heap.size := ⟨_, rfl⟩
  have HR0 := hide hr0
  clear hr0
  go_enter Tryz.func119, Tryz.ntmps119
  go_wp2_with fail
  go_loopw [3, 9] (fun ov kv wr => Hid (kv = .int .i64 0 ∧ ov = .slice none 0 0 ∧ wr = w ∨ kv = .int .i64 1 ∧ wr.ownsRow r0 108 2 ov 1 [.string A, .string B] ∧ Below w.heap.size w wr)) (fun _ kv _ => 1 - (intOf kv).toNat)
  case atStart => exact hide (.inl ⟨rfl, rfl, rfl⟩)
  case round =>
    rcases hrel.out with ⟨rfl, rfl, hww⟩ | ⟨rfl, hown, hb2⟩
    · obtain rfl : w = wr := hww.symm
      have k0 := HE.out.1
      have k1 := HE.out.2
      obtain ⟨W0, hW0⟩ : ∃ W0, W0 = w.alloc (.cells #[.string A, .string B] 108 (0, 0)) := ⟨_, rfl⟩
      have HW := hide hW0
      have HB0 : Hid (Below w.heap.size w W0) := hide (by rw [hW0]; exact bl_alloc (bl_refl w) _)
      have HT0 : Hid (Blk W0 r0 [.string A, .string B] 108) := hide (by rw [hW0, HR0.out]; exact Blk.new w _ _)
      clear hW0 hb
      go_wp2_with fail
      rw [← HW.out, ← HR0.out]
      clear k0 k1
      go_loopw [6] (fun iv wx => Hid (iv = .int .i64 0 ∧ wx = W0)) (fun _ _ => 0)
      case atStart => exact hide ⟨rfl, rfl⟩
      case round =>
        obtain ⟨rfl, hwx⟩ := hrel.out
        obtain rfl : W0 = wr := hwx.symm
        have k0 := HT0.out.cell (k := 0) rfl
        have k1 := HT0.out.cell (k := 1) rfl
        go_wp2_with fail
        go_quiet (fail)
        obtain ⟨w1, hw1⟩ : ∃ w1, w1 = W0.drewN nq := ⟨_, rfl⟩
        have HB1 : Hid (Below w.heap.size w w1) := hide (by rw [hw1]; exact bl_drewN HB0.out nq)
        have HT1 : Hid (Blk w1 r0 [.string A, .string B] 108) := hide (by rw [hw1]; exact HT0.out)
        rw [← hw1]
        clear hw1 k0 k1
        have HRL := hide (rd_lit w1 #[.string ⟨#[]⟩, .string ⟨#[]⟩] 108 (0, 0))
        have HA := hide (bl_alloc HB1.out (.cells #[.string ⟨#[]⟩, .string ⟨#[]⟩] 108 (0, 0)))
        have HTA := hide (HT1.out.alloc (.cells #[.string ⟨#[]⟩, .string ⟨#[]⟩] 108 (0, 0)))
        have HSA := hide (show r0 + 1 ≤ (w1.alloc (.cells #[.string ⟨#[]⟩, .string ⟨#[]⟩] 108 (0, 0))).heap.size by have := HT1.out.lt; simp; omega)
        go_wp2_with (at_builtin; go_loud (refine wpList_append_rd _ rfl (.tmp 30) (.tmp 32) 74 rfl (r0 + 1) 108 i2 _ 2 32 Tryz.underlying74 hi2 hz0 hz1 hz2 rfl (by decide) (.slice none 0 0) 0 [] rfl (World.ownsRow_nil _ _ _ _) (some ⟨w1.heap.size, 0, none⟩) 1 1 [.string ⟨#[]⟩, .string ⟨#[]⟩] rfl rfl HRL.out (by intro u hu; simp at hu; subst hu; rfl) (by simp only [maxLen]; omega) (by omega) HSA.out ?_; intro v2 w2 hown hg1 hat1; obtain ⟨g, c2, hv, hcc, hgb, hgl⟩ := ownG_pos hown (by omega); subst hv; have HB2 := hide (bl_grown HA.out hg1 (fun k hk => by cases hk)); have HT2 := hide (Blk.grown HTA.out hg1 (by simp [Value.ownBlock])); have HO2 := hide hown; have HG := hide (And.intro hcc (And.intro hgb hgl)); clear hown hg1 hat1 hcc hgb hgl))
        have hcc : (1 : Int) ≤ (c2 : Int) := by have := HG.out.1; omega
        have hw1 : IntKind.i64.wrap 1 = 1 := wrap_ok (by omega) (by omega)
        by_cases hc1 : c2 = 1
        · subst hc1
          refine wp_region_K 7 (by kernel_rfl) (by kernel_rfl) (fun Q HQ => ?_)
          simp only [List.take_succ_cons, List.take_zero, List.map_cons, List.map_nil]
          repeat
            first
            | (refine wpS_skip (b := true) rfl (guard_mk rfl rfl) ?_)
            | (refine wpS_skip (b := false) rfl (guard_mk rfl rfl) ?_)
            | (refine wpS_skipU rfl (guardU_mk rfl rfl) ?_)
            | (first | apply wpS_c rfl | apply wpS_gc rfl (guard_mk rfl rfl)
               focus
                 intro ev wx hC hx
                 (try simp [Op.operands, Call.operands, opndS, Slot.holds] at hx)
                 go_simp
                 try (first | exact rfl | exact ⟨Below.refl _ _, rfl⟩)
                 done)
            dsimp only [setS, List.set]
          refine wpS_nil (HQ _ fun w3 hC3 => ?_)
          simp only [closeS, List.drop_succ_cons, List.drop_zero, List.drop_nil]
          have HB3 := hide (HB2.out.trans (hC3.below.mono HB2.out.size))
          have HT3 := hide (HT2.out.below hC3.below)
          have HO3 := hide (ownG_below HO2.out hC3.below)
          have HG3 := hide hC3.below.size
          clear HQ hC3
          have hcp : ∀ (wx : World) (d a : Option Addr) (dc sl sc : Nat) (ty : TypeId), (Builtin.copy_ #[74, 74] ty #[.slice d 0 dc, .slice a sl sc]).run Tryz.prog wx = .ok (.int .i64 0) wx := fun wx d a dc sl sc ty => run_copy0 wx 74 74 ty 108 d a dc sl sc i2 Tryz.underlying74 hi2
          have k0 := HT3.out.cell (k := 0) rfl
          have k1 := HT3.out.cell (k := 1) rfl
          obtain ⟨m0, f0⟩ := ownG_at (k := 0) HO3.out rfl
          obtain ⟨m1, f1⟩ := ownG_at (k := 1) HO3.out rfl
          have HO4 := hide (ownG_set (ownG_set HO3.out 0 (.string A)) 1 (.string B))
          have HB4 := hide (bl_set (bl_set HB3.out (p := ⟨g, 0, none⟩) (show w.heap.size ≤ g by have := HG.out.2.1; have := HR0.out; omega) (.string A)) (p := ⟨g, 1, none⟩) (show w.heap.size ≤ g by have := HG.out.2.1; have := HR0.out; omega) (.string B))
          go_wp2
          go_roundw
          case rel => exact hide (.inr ⟨rfl, ownG_mono HO4.out (by omega), HB4.out⟩)
          case measure => simp [intOf]
        · have hc1' : ¬ (c2 : Int) = 1 := by omega
          refine wp_region_K 7 (by kernel_rfl) (by kernel_rfl) (fun Q HQ => ?_)
          simp only [List.take_succ_cons, List.take_zero, List.map_cons, List.map_nil]
          repeat
            first
            | (refine wpS_skip (b := true) rfl (guard_mk rfl rfl) ?_)
            | (refine wpS_skip (b := false) rfl (guard_mk rfl rfl) ?_)
            | (refine wpS_skipU rfl (guardU_mk rfl rfl) ?_)
            | (first | apply wpS_c rfl | apply wpS_gc rfl (guard_mk rfl rfl)
               focus
                 intro ev wx hC hx
                 (try simp [Op.operands, Call.operands, opndS, Slot.holds] at hx)
                 go_simp
                 try (first | exact rfl | exact ⟨Below.refl _ _, rfl⟩)
                 done)
            dsimp only [setS, List.set]
          refine wpS_nil (HQ _ fun w3 hC3 => ?_)
          simp only [closeS, List.drop_succ_cons, List.drop_zero, List.drop_nil]
          have HB3 := hide (HB2.out.trans (hC3.below.mono HB2.out.size))
          have HT3 := hide (HT2.out.below hC3.below)
          have HO3 := hide (ownG_below HO2.out hC3.below)
          have HG3 := hide hC3.below.size
          clear HQ hC3
          have hcp : ∀ (wx : World) (d a : Option Addr) (dc sl sc : Nat) (ty : TypeId), (Builtin.copy_ #[74, 74] ty #[.slice d 0 dc, .slice a sl sc]).run Tryz.prog wx = .ok (.int .i64 0) wx := fun wx d a dc sl sc ty => run_copy0 wx 74 74 ty 108 d a dc sl sc i2 Tryz.underlying74 hi2
          have k0 := HT3.out.cell (k := 0) rfl
          have k1 := HT3.out.cell (k := 1) rfl
          obtain ⟨m0, f0⟩ := ownG_at (k := 0) HO3.out rfl
          obtain ⟨m1, f1⟩ := ownG_at (k := 1) HO3.out rfl
          have HO4 := hide (ownG_set (ownG_set HO3.out 0 (.string A)) 1 (.string B))
          have HB4 := hide (bl_set (bl_set HB3.out (p := ⟨g, 0, none⟩) (show w.heap.size ≤ g by have := HG.out.2.1; have := HR0.out; omega) (.string A)) (p := ⟨g, 1, none⟩) (show w.heap.size ≤ g by have := HG.out.2.1; have := HR0.out; omega) (.string B))
          go_wp2
          go_roundw
          case rel => exact hide (.inr ⟨rfl, ownG_mono HO4.out (by omega), HB4.out⟩)
          case measure => simp [intOf]
    · have HO := hide hown
      obtain ⟨v2, c2, hv, _, _⟩ := ownG_form hown
      subst hv
      have HB2 := hide hb2
      clear hown hb2
      go_wp2
      go_ret
      exact ⟨_, rfl, by rw [← HR0.out]; exact HO.out, HB2.out⟩
end Go.Proofs.YtbpkclopcoaikaaGreatDoor
namespace Go.Proofs.YtbpkclopcoaikaaGreatDoor
open Go.RowKit
set_option linter.unusedVariables false
set_option linter.unusedSimpArgs false
def TagP (g : Nat) (b : Bool) (nm : ByteArray) (w : World) (e : Ending) (w' : World) : Prop := e = .returned (.agg #[.bool b, .string nm, .slice none 0 0]) ∧ KG g w w'
set_option maxHeartbeats 8000000 in
set_option maxRecDepth 100000 in
theorem tagO_any (g : Nat) (l : List UInt8) (k m : Nat) (R : ByteArray) (hR : R = bstr ((l.take m).drop k)) (w : World) (h : ScI w g l 0) (hl : l.length ≤ 1000) (h0 : l[0]? = some 60) (h1 : seesB l 1 47 = false) (hk : k = 1) (hn : NmAt l k m) (h2 : seesB l m 32 = false) (h3 : l[m]? = some 62) (h4 : l.length = m + 1) : Calls Tryz.prog 96 #[.pointer (some ⟨g, 0, none⟩)] w (TagP g false R w) := by
  have HK := hide h
  have hg := Blk.lt h
  have HRR := hide hR
  have HE1 : Hid (∀ wx, ScI wx g l 0 → Calls Tryz.prog 115 #[.pointer (some ⟨g, 0, none⟩), .int .u8 60] wx fun e w' => e = .returned (.tuple #[]) ∧ KG g wx w' ∧ ScI w' g l 1) := hide (fun wx hx => eat_n g l 0 60 60 (by decide) wx hx hl h0)
  have HS1 : Hid (∀ wx, ScI wx g l 1 → Calls Tryz.prog 116 #[.pointer (some ⟨g, 0, none⟩), .int .u8 47] wx fun e w' => e = .returned (.bool false) ∧ Below wx.heap.size wx w') := hide (fun wx hx => sees_n g l 1 47 47 false (by decide) h1 wx hx hl)
  have HN : Hid (∀ wx, ScI wx g l k → Calls Tryz.prog 117 #[.pointer (some ⟨g, 0, none⟩)] wx fun e w' => e = .returned (.string R) ∧ KG g wx w' ∧ ScI w' g l m) := hide (fun wx hx => by rw [hR]; exact sname_any g l k m wx hx hl hn)
  have HS2 : Hid (∀ wx, ScI wx g l m → Calls Tryz.prog 116 #[.pointer (some ⟨g, 0, none⟩), .int .u8 32] wx fun e w' => e = .returned (.bool false) ∧ Below wx.heap.size wx w') := hide (fun wx hx => sees_n g l m 32 32 false (by decide) h2 wx hx hl)
  obtain ⟨B, hB⟩ : ∃ B, B = w.heap.size := ⟨_, rfl⟩
  have HBB := hide hB
  obtain ⟨W0, hW0⟩ : ∃ W0, W0 = (w.alloc (.cells #[.bool false, .string ⟨#[]⟩, .slice none 0 0] 114 (0, 0))).alloc (.cells #[.bool false, .string ⟨#[]⟩, .slice none 0 0] 114 (0, 0)) := ⟨_, rfl⟩
  have HW := hide hW0
  have HB0 : Hid (Below w.heap.size w W0) := hide (by rw [hW0]; exact bl_alloc (bl_alloc (bl_refl w) _) _)
  have HK0 : Hid (ScI W0 g l 0) := hide (Blk.below h HB0.out)
  have HR0 : Hid (Blk W0 B [.bool false, .string ⟨#[]⟩, .slice none 0 0] 114) := hide (by rw [hW0, hB]; exact (Blk.new w _ _).alloc _)
  have HT0 : Hid (Blk W0 (B + 1) [.bool false, .string ⟨#[]⟩, .slice none 0 0] 114) := hide (by rw [hW0]; exact Blk.newG (by rw [World.size_alloc, hB]) _ _)
  have HG0 := hide (KG.of (g := g) HB0.out)
  have HGN : Hid (B ≠ g ∧ B + 1 ≠ g ∧ w.heap.size ≤ B) := hide (by omega)
  have HE2 : Hid (∀ wx, ScI wx g l m → Calls Tryz.prog 115 #[.pointer (some ⟨g, 0, none⟩), .int .u8 62] wx fun e w' => e = .returned (.tuple #[]) ∧ KG g wx w' ∧ ScI w' g l (m + 1)) := hide (fun wx hx => eat_n g l m 62 62 (by decide) wx hx hl h3)
  have HNL : Hid (¬ ((m : Int) + 1 < ((bstr l).size : Int))) := hide (by rw [bstr_size, h4]; omega)
  have HM : Hid (m ≤ 1000) := hide (by omega)
  clear h h0 h1 h2 h3 h4 hn hl hB hW0 hR
  go_enter Tryz.func96, Tryz.ntmps96
  go_wp2_with fail
  rw [← HW.out, ← HBB.out]
  refine (HE1.out _ HK0.out).mono ?_
  rintro e w1 ⟨rfl, hk1, hs1⟩
  have HG1 := hide (HG0.out.trans hk1)
  have HT1 := hide (HT0.out.kg hk1 HGN.out.2.1)
  have HR1 := hide (HR0.out.kg hk1 HGN.out.1)
  have HC1 := hide hs1
  clear hk1 hs1
  go_wp2_with fail
  refine (HS1.out _ HC1.out).mono ?_
  rintro e w2 ⟨rfl, hb2⟩
  have HG2 := hide (HG1.out.trans (.of hb2))
  have HT2 := hide (HT1.out.below hb2)
  have HR2 := hide (HR1.out.below hb2)
  have HC2 : Hid (ScI w2 g l 1) := hide (Blk.below HC1.out hb2)
  clear hb2
  go_wp2_with fail
  refine (HN.out _ (by rw [hk]; exact HC2.out)).mono ?_
  rintro e w3 ⟨rfl, hk3, hs3⟩
  have HG3 := hide (HG2.out.trans hk3)
  have HT3 := hide (HT2.out.kg hk3 HGN.out.2.1)
  have HR3 := hide (HR2.out.kg hk3 HGN.out.1)
  have hf3 := HT3.out.fr 1
  have ht3 := HT3.out.cell (k := 1) rfl
  have HT4 := hide (HT3.out.set 1 (.string R))
  have HR4 := hide (HR3.out.setne (g' := B + 1) (by omega) 1 (.string R))
  have HC4 : Hid (ScI (w3.setCell ⟨B + 1, 1, none⟩ (.string R)) g l m) := hide (Blk.setne hs3 (Ne.symm HGN.out.2.1) 1 _)
  have HG4 := hide (HG3.out.set_new (b := B + 1) (by have := HGN.out.2.2; omega) 1 (.string R))
  clear hk3 hs3
  go_wp2_with fail
  obtain ⟨w4, hw4⟩ : ∃ w4, w4 = w3.setCell ⟨B + 1, 1, none⟩ (.string R) := ⟨_, rfl⟩
  rw [← hw4] at HT4 HR4 HC4 HG4 ⊢
  clear hw4 hf3 ht3
  go_loopw [] (fun wr => Hid (wr = w4)) (fun _ => 0)
  case atStart => exact hide rfl
  case round =>
    obtain rfl : w4 = wr := hrel.out.symm
    have t0 := HT4.out.cell (k := 0) rfl
    go_wp2_with fail
    refine (HS2.out _ HC4.out).mono ?_
    rintro e w5 ⟨rfl, hb5⟩
    have HG5 := hide (HG4.out.trans (.of hb5))
    have HT5 := hide (HT4.out.below hb5)
    have HR5 := hide (HR4.out.below hb5)
    have HC5 : Hid (ScI w5 g l m) := hide (Blk.below HC4.out hb5)
    clear hb5 t0
    go_wp2_with fail
    refine (HE2.out _ HC5.out).mono ?_
    rintro e w6 ⟨rfl, hk6, hs6⟩
    have HG6 := hide (HG5.out.trans hk6)
    have HT6 := hide (HT5.out.kg hk6 HGN.out.2.1)
    have HR6 := hide (HR5.out.kg hk6 HGN.out.1)
    have q0 := Blk.cell hs6 (k := 0) rfl
    have q1 := Blk.cell hs6 (k := 1) rfl
    clear hk6 hs6
    have hnl := HNL.out
    have hnl2 : decide ((m : Int) + 1 < ((bstr l).size : Int)) = false := by rw [decide_eq_false_iff_not]; omega
    have hnl3 : decide (m + 1 < (bstr l).size) = false := by rw [decide_eq_false_iff_not]; omega
    go_wp2_with fail
    go_quiet (fail)
    clear q0 q1
    have t0 := HT6.out.cell (k := 0) rfl
    have t1 := HT6.out.cell (k := 1) rfl
    have t2 := HT6.out.cell (k := 2) rfl
    go_wp2_with fail
    refine (sorted0_any _).mono ?_
    rintro e w' ⟨rfl, rfl⟩
    clear hnl hnl2 hnl3
    have ft := HT6.out.fr 2
    have fr0 := HR6.out.fr 0
    have fr1 := HR6.out.fr 1
    have fr2 := HR6.out.fr 2
    have HT7 : Hid (Blk ((w6.drewN nq).setCell ⟨B + 1, 2, none⟩ (.slice none 0 0)) (B + 1) [.bool false, .string R, .slice none 0 0] 114) := hide (Blk.set (w := w6.drewN nq) HT6.out 2 (.slice none 0 0))
    have u0 := HT7.out.cell (k := 0) rfl
    have u1 := HT7.out.cell (k := 1) rfl
    have u2 := HT7.out.cell (k := 2) rfl
    have HR7 : Hid (Blk ((w6.drewN nq).setCell ⟨B + 1, 2, none⟩ (.slice none 0 0)) B [.bool false, .string ⟨#[]⟩, .slice none 0 0] 114) := hide (Blk.setne (w := w6.drewN nq) HR6.out (by omega) 2 (.slice none 0 0))
    have HR8 := hide (((HR7.out.set 0 (.bool false)).set 1 (.string R)).set 2 (.slice none 0 0))
    have r0 := HR7.out.cell (k := 0) rfl
    have r1 := HR7.out.cell (k := 1) rfl
    have r2 := HR7.out.cell (k := 2) rfl
    have v0 := HR8.out.cell (k := 0) rfl
    have v1 := HR8.out.cell (k := 1) rfl
    have v2 := HR8.out.cell (k := 2) rfl
    have HG8 := hide ((((((HG6.out.trans (.of (bl_drewN (bl_refl w6) nq))).set_new (b := B + 1) (by have := HGN.out.2.2; omega) 2 (.slice none 0 0)).set_new (b := B) HGN.out.2.2 0 (.bool false)).set_new (b := B) HGN.out.2.2 1 (.string R))).set_new (b := B) HGN.out.2.2 2 (.slice none 0 0))
    go_wp2
    refine bodyPost_ret (v := .agg #[.bool false, .string R, .slice none 0 0]) (by simp [results, Tryz.results96, go_sem, v0, v1, v2]) rfl ⟨rfl, HG8.out⟩
set_option maxHeartbeats 8000000 in
set_option maxRecDepth 100000 in
theorem tagC_any (g : Nat) (l : List UInt8) (k m : Nat) (R : ByteArray) (hR : R = bstr ((l.take m).drop k)) (w : World) (h : ScI w g l 0) (hl : l.length ≤ 1000) (h0 : l[0]? = some 60) (h1 : seesB l 1 47 = true) (hk : k = 2) (hn : NmAt l k m) (h2 : seesB l m 32 = false) (h3 : l[m]? = some 62) (h4 : l.length = m + 1) : Calls Tryz.prog 96 #[.pointer (some ⟨g, 0, none⟩)] w (TagP g true R w) := by
  have HK := hide h
  have hg := Blk.lt h
  have HRR := hide hR
  have HE1 : Hid (∀ wx, ScI wx g l 0 → Calls Tryz.prog 115 #[.pointer (some ⟨g, 0, none⟩), .int .u8 60] wx fun e w' => e = .returned (.tuple #[]) ∧ KG g wx w' ∧ ScI w' g l 1) := hide (fun wx hx => eat_n g l 0 60 60 (by decide) wx hx hl h0)
  have HS1 : Hid (∀ wx, ScI wx g l 1 → Calls Tryz.prog 116 #[.pointer (some ⟨g, 0, none⟩), .int .u8 47] wx fun e w' => e = .returned (.bool true) ∧ Below wx.heap.size wx w') := hide (fun wx hx => sees_n g l 1 47 47 true (by decide) h1 wx hx hl)
  have HN : Hid (∀ wx, ScI wx g l k → Calls Tryz.prog 117 #[.pointer (some ⟨g, 0, none⟩)] wx fun e w' => e = .returned (.string R) ∧ KG g wx w' ∧ ScI w' g l m) := hide (fun wx hx => by rw [hR]; exact sname_any g l k m wx hx hl hn)
  have HS2 : Hid (∀ wx, ScI wx g l m → Calls Tryz.prog 116 #[.pointer (some ⟨g, 0, none⟩), .int .u8 32] wx fun e w' => e = .returned (.bool false) ∧ Below wx.heap.size wx w') := hide (fun wx hx => sees_n g l m 32 32 false (by decide) h2 wx hx hl)
  obtain ⟨B, hB⟩ : ∃ B, B = w.heap.size := ⟨_, rfl⟩
  have HBB := hide hB
  obtain ⟨W0, hW0⟩ : ∃ W0, W0 = (w.alloc (.cells #[.bool false, .string ⟨#[]⟩, .slice none 0 0] 114 (0, 0))).alloc (.cells #[.bool false, .string ⟨#[]⟩, .slice none 0 0] 114 (0, 0)) := ⟨_, rfl⟩
  have HW := hide hW0
  have HB0 : Hid (Below w.heap.size w W0) := hide (by rw [hW0]; exact bl_alloc (bl_alloc (bl_refl w) _) _)
  have HK0 : Hid (ScI W0 g l 0) := hide (Blk.below h HB0.out)
  have HR0 : Hid (Blk W0 B [.bool false, .string ⟨#[]⟩, .slice none 0 0] 114) := hide (by rw [hW0, hB]; exact (Blk.new w _ _).alloc _)
  have HT0 : Hid (Blk W0 (B + 1) [.bool false, .string ⟨#[]⟩, .slice none 0 0] 114) := hide (by rw [hW0]; exact Blk.newG (by rw [World.size_alloc, hB]) _ _)
  have HG0 := hide (KG.of (g := g) HB0.out)
  have HGN : Hid (B ≠ g ∧ B + 1 ≠ g ∧ w.heap.size ≤ B) := hide (by omega)
  have HE2 : Hid (∀ wx, ScI wx g l m → Calls Tryz.prog 115 #[.pointer (some ⟨g, 0, none⟩), .int .u8 62] wx fun e w' => e = .returned (.tuple #[]) ∧ KG g wx w' ∧ ScI w' g l (m + 1)) := hide (fun wx hx => eat_n g l m 62 62 (by decide) wx hx hl h3)
  have HNL : Hid (¬ ((m : Int) + 1 < ((bstr l).size : Int))) := hide (by rw [bstr_size, h4]; omega)
  have HM : Hid (m ≤ 1000) := hide (by omega)
  clear h h0 h1 h2 h3 h4 hn hl hB hW0 hR HS2
  go_enter Tryz.func96, Tryz.ntmps96
  go_wp2_with fail
  rw [← HW.out, ← HBB.out]
  refine (HE1.out _ HK0.out).mono ?_
  rintro e w1 ⟨rfl, hk1, hs1⟩
  have HG1 := hide (HG0.out.trans hk1)
  have HT1 := hide (HT0.out.kg hk1 HGN.out.2.1)
  have HR1 := hide (HR0.out.kg hk1 HGN.out.1)
  have HC1 := hide hs1
  clear hk1 hs1
  go_wp2_with fail
  refine (HS1.out _ HC1.out).mono ?_
  rintro e w2 ⟨rfl, hb2⟩
  have HG2 := hide (HG1.out.trans (.of hb2))
  have HT2 := hide (HT1.out.below hb2)
  have HR2 := hide (HR1.out.below hb2)
  have HC2 : Hid (ScI w2 g l 1) := hide (Blk.below HC1.out hb2)
  clear hb2
  have q1 := Blk.cell HC2.out (k := 1) rfl
  have f1 := Blk.fr HC2.out 1
  have f2 := HT2.out.fr 0
  have t0 := HT2.out.cell (k := 0) rfl
  have HC2a : Hid (ScI (w2.setCell ⟨g, 1, none⟩ (.int .i64 2)) g l 2) := hide (Blk.set HC2.out 1 (.int .i64 2))
  have HC2b : Hid (ScI ((w2.setCell ⟨g, 1, none⟩ (.int .i64 2)).setCell ⟨B + 1, 0, none⟩ (.bool true)) g l 2) := hide (Blk.setne HC2a.out (Ne.symm HGN.out.2.1) 0 _)
  have HT2b : Hid (Blk ((w2.setCell ⟨g, 1, none⟩ (.int .i64 2)).setCell ⟨B + 1, 0, none⟩ (.bool true)) (B + 1) [.bool true, .string ⟨#[]⟩, .slice none 0 0] 114) := hide ((HT2.out.setne HGN.out.2.1 1 _).set 0 (.bool true))
  have HR2b : Hid (Blk ((w2.setCell ⟨g, 1, none⟩ (.int .i64 2)).setCell ⟨B + 1, 0, none⟩ (.bool true)) B [.bool false, .string ⟨#[]⟩, .slice none 0 0] 114) := hide ((HR2.out.setne HGN.out.1 1 _).setne (by omega) 0 _)
  have HG2b := hide ((HG2.out.setCell 1 (.int .i64 2)).set_new (b := B + 1) (by have := HGN.out.2.2; omega) 0 (.bool true))
  have t0' := (HT2.out.setne HGN.out.2.1 1 (.int .i64 2)).cell (k := 0) rfl
  have f2' := (HT2.out.setne HGN.out.2.1 1 (.int .i64 2)).fr 0
  go_wp2_with fail
  obtain ⟨w2b, hw2b⟩ : ∃ w2b, w2b = (w2.setCell ⟨g, 1, none⟩ (.int .i64 2)).setCell ⟨B + 1, 0, none⟩ (.bool true) := ⟨_, rfl⟩
  rw [← hw2b] at HC2b HT2b HR2b HG2b ⊢
  clear hw2b q1 f1 f2 t0 t0' f2'
  refine (HN.out _ (by rw [hk]; exact HC2b.out)).mono ?_
  rintro e w3 ⟨rfl, hk3, hs3⟩
  have HG3 := hide (HG2b.out.trans hk3)
  have HT3 := hide (HT2b.out.kg hk3 HGN.out.2.1)
  have HR3 := hide (HR2b.out.kg hk3 HGN.out.1)
  have hf3 := HT3.out.fr 1
  have ht3 := HT3.out.cell (k := 1) rfl
  have HT4 := hide (HT3.out.set 1 (.string R))
  have HR4 := hide (HR3.out.setne (g' := B + 1) (by omega) 1 (.string R))
  have HC4 : Hid (ScI (w3.setCell ⟨B + 1, 1, none⟩ (.string R)) g l m) := hide (Blk.setne hs3 (Ne.symm HGN.out.2.1) 1 _)
  have HG4 := hide (HG3.out.set_new (b := B + 1) (by have := HGN.out.2.2; omega) 1 (.string R))
  clear hk3 hs3
  go_wp2_with fail
  obtain ⟨w4, hw4⟩ : ∃ w4, w4 = w3.setCell ⟨B + 1, 1, none⟩ (.string R) := ⟨_, rfl⟩
  rw [← hw4] at HT4 HR4 HC4 HG4 ⊢
  clear hw4 hf3 ht3
  go_loopw [] (fun wr => Hid (wr = w4)) (fun _ => 0)
  case atStart => exact hide rfl
  case round =>
    obtain rfl : w4 = wr := hrel.out.symm
    have t0 := HT4.out.cell (k := 0) rfl
    go_wp2_with fail
    refine (HE2.out _ HC4.out).mono ?_
    rintro e w6 ⟨rfl, hk6, hs6⟩
    have HG6 := hide (HG4.out.trans hk6)
    have HT6 := hide (HT4.out.kg hk6 HGN.out.2.1)
    have HR6 := hide (HR4.out.kg hk6 HGN.out.1)
    have q0 := Blk.cell hs6 (k := 0) rfl
    have q1 := Blk.cell hs6 (k := 1) rfl
    clear hk6 hs6
    have hnl := HNL.out
    have hnl2 : decide ((m : Int) + 1 < ((bstr l).size : Int)) = false := by rw [decide_eq_false_iff_not]; omega
    have hnl3 : decide (m + 1 < (bstr l).size) = false := by rw [decide_eq_false_iff_not]; omega
    go_wp2_with fail
    go_quiet (fail)
    clear q0 q1
    clear t0
    have t0 := HT6.out.cell (k := 0) rfl
    have t1 := HT6.out.cell (k := 1) rfl
    have t2 := HT6.out.cell (k := 2) rfl
    go_wp2_with fail
    refine (sorted0_any _).mono ?_
    rintro e w' ⟨rfl, rfl⟩
    clear hnl hnl2 hnl3
    have ft := HT6.out.fr 2
    have fr0 := HR6.out.fr 0
    have fr1 := HR6.out.fr 1
    have fr2 := HR6.out.fr 2
    have HT7 : Hid (Blk ((w6.drewN nq).setCell ⟨B + 1, 2, none⟩ (.slice none 0 0)) (B + 1) [.bool true, .string R, .slice none 0 0] 114) := hide (Blk.set (w := w6.drewN nq) HT6.out 2 (.slice none 0 0))
    have u0 := HT7.out.cell (k := 0) rfl
    have u1 := HT7.out.cell (k := 1) rfl
    have u2 := HT7.out.cell (k := 2) rfl
    have HR7 : Hid (Blk ((w6.drewN nq).setCell ⟨B + 1, 2, none⟩ (.slice none 0 0)) B [.bool false, .string ⟨#[]⟩, .slice none 0 0] 114) := hide (Blk.setne (w := w6.drewN nq) HR6.out (by omega) 2 (.slice none 0 0))
    have HR8 := hide (((HR7.out.set 0 (.bool true)).set 1 (.string R)).set 2 (.slice none 0 0))
    have r0 := HR7.out.cell (k := 0) rfl
    have r1 := HR7.out.cell (k := 1) rfl
    have r2 := HR7.out.cell (k := 2) rfl
    have v0 := HR8.out.cell (k := 0) rfl
    have v1 := HR8.out.cell (k := 1) rfl
    have v2 := HR8.out.cell (k := 2) rfl
    have HG8 := hide ((((((HG6.out.trans (.of (bl_drewN (bl_refl w6) nq))).set_new (b := B + 1) (by have := HGN.out.2.2; omega) 2 (.slice none 0 0)).set_new (b := B) HGN.out.2.2 0 (.bool true)).set_new (b := B) HGN.out.2.2 1 (.string R))).set_new (b := B) HGN.out.2.2 2 (.slice none 0 0))
    go_wp2
    refine bodyPost_ret (v := .agg #[.bool true, .string R, .slice none 0 0]) (by simp [results, Tryz.results96, go_sem, v0, v1, v2]) rfl ⟨rfl, HG8.out⟩
end Go.Proofs.YtbpkclopcoaikaaGreatDoor
namespace Go.Proofs.YtbpkclopcoaikaaGreatDoor
open Go.RowKit
set_option linter.unusedVariables false
set_option linter.unusedSimpArgs false
def TagKP (g : Nat) (nm R1 R2 : ByteArray) (w : World) (e : Ending) (w' : World) : Prop := ∃ v, e = .returned (.agg #[.bool false, .string nm, v]) ∧ KG g w w' ∧ w'.ownsRow w.heap.size 108 2 v 1 [.string R1, .string R2]
def TG (g B m1 e1 : Nat) (l : List UInt8) (R : ByteArray) (W : World) (L : Nat → Bool) (w : World) : Prop :=
  KG g W w ∧ Blk w (B + 1) [.bool false, .string R, .slice none 0 0] 114 ∧ Blk w B [.bool false, .string ⟨#[]⟩, .slice none 0 0] 114 ∧ (L 5 = false → ScI w g l m1) ∧ (L 5 = true → ScI w g l e1)
theorem TG.same {g B m1 e1 : Nat} {l : List UInt8} {R : ByteArray} {W : World} {L : Nat → Bool} {w w' : World} (h : TG g B m1 e1 l R W L w) (hb : Below w.heap.size w w') {i : Nat} (hi : i ≠ 5) : TG g B m1 e1 l R W (upL L i) w' := by
  have e : upL L i 5 = L 5 := if_neg (Ne.symm hi)
  exact ⟨h.1.trans (.of hb), h.2.1.below hb, h.2.2.1.below hb, fun hL => Blk.below (h.2.2.2.1 (e ▸ hL)) hb, fun hL => Blk.below (h.2.2.2.2 (e ▸ hL)) hb⟩
def TE (g : Nat) : Nat → World → World → Prop := fun _ w w' => KG g w w'
def PrS (g : Nat) (R1 R2 : ByteArray) : Value → World → Prop := fun v w => ∃ b, v = .slice (some ⟨b, 0, none⟩) 1 1 ∧ b ≠ g ∧ Blk w b [.string R1, .string R2] 108
theorem stabPr {g : Nat} {R1 R2 : ByteArray} (i : Nat) : StabE (TE g) i (.p (PrS g R1 R2)) := fun _ _ u w w' hE ⟨b, h1, h2, h3⟩ => ⟨b, h1, h2, h3.kg hE h2⟩
set_option maxHeartbeats 8000000 in
set_option maxRecDepth 100000 in
theorem tagK_any (g : Nat) (l : List UInt8) (k m m1 m2 v q e1 : Nat) (R R1 R2 : ByteArray) (hR : R = bstr ((l.take m).drop k)) (hR1 : R1 = bstr ((l.take m2).drop m1)) (c : UInt8) (hR2 : R2 = bstr [c]) (w : World) (h : ScI w g l 0) (hl : l.length ≤ 1000) (h0 : l[0]? = some 60) (h1 : seesB l 1 47 = false) (hk : k = 1) (hn : NmAt l k m) (h2 : seesB l m 32 = true) (hm1 : m1 = m + 1) (h2' : seesB l m1 32 = false) (hn2 : NmAt l m1 m2) (y1 : l[m2]? = some 61) (y2 : l[m2 + 1]? = some 34) (hv : v = m2 + 1 + 1) (hc : PlainB c) (y3 : l[v]? = some c) (y4 : l[q]? = some 34) (hq : q = v + 1) (he : e1 = q + 1)
    (h2e : seesB l e1 32 = false) (h3 : l[e1]? = some 62) (h4 : l.length = e1 + 1) : Calls Tryz.prog 96 #[.pointer (some ⟨g, 0, none⟩)] w (TagKP g R R1 R2 w) := by
  obtain ⟨i2, hi2, hz0, hz1, hz2⟩ := info_parts info_pair
  have HK := hide h
  have hg := Blk.lt h
  have HRR := hide hR
  have HE1 : Hid (∀ wx, ScI wx g l 0 → Calls Tryz.prog 115 #[.pointer (some ⟨g, 0, none⟩), .int .u8 60] wx fun e w' => e = .returned (.tuple #[]) ∧ KG g wx w' ∧ ScI w' g l 1) := hide (fun wx hx => eat_n g l 0 60 60 (by decide) wx hx hl h0)
  have HS1 : Hid (∀ wx, ScI wx g l 1 → Calls Tryz.prog 116 #[.pointer (some ⟨g, 0, none⟩), .int .u8 47] wx fun e w' => e = .returned (.bool false) ∧ Below wx.heap.size wx w') := hide (fun wx hx => sees_n g l 1 47 47 false (by decide) h1 wx hx hl)
  have HN : Hid (∀ wx, ScI wx g l k → Calls Tryz.prog 117 #[.pointer (some ⟨g, 0, none⟩)] wx fun e w' => e = .returned (.string R) ∧ KG g wx w' ∧ ScI w' g l m) := hide (fun wx hx => by rw [hR]; exact sname_any g l k m wx hx hl hn)
  have HS2 : Hid (∀ wx, ScI wx g l m → Calls Tryz.prog 116 #[.pointer (some ⟨g, 0, none⟩), .int .u8 32] wx fun e w' => e = .returned (.bool true) ∧ Below wx.heap.size wx w') := hide (fun wx hx => sees_n g l m 32 32 true (by decide) h2 wx hx hl)
  obtain ⟨B, hB⟩ : ∃ B, B = w.heap.size := ⟨_, rfl⟩
  have HBB := hide hB
  obtain ⟨W0, hW0⟩ : ∃ W0, W0 = (w.alloc (.cells #[.bool false, .string ⟨#[]⟩, .slice none 0 0] 114 (0, 0))).alloc (.cells #[.bool false, .string ⟨#[]⟩, .slice none 0 0] 114 (0, 0)) := ⟨_, rfl⟩
  have HW := hide hW0
  have HB0 : Hid (Below w.heap.size w W0) := hide (by rw [hW0]; exact bl_alloc (bl_alloc (bl_refl w) _) _)
  have HK0 : Hid (ScI W0 g l 0) := hide (Blk.below h HB0.out)
  have HR0 : Hid (Blk W0 B [.bool false, .string ⟨#[]⟩, .slice none 0 0] 114) := hide (by rw [hW0, hB]; exact (Blk.new w _ _).alloc _)
  have HT0 : Hid (Blk W0 (B + 1) [.bool false, .string ⟨#[]⟩, .slice none 0 0] 114) := hide (by rw [hW0]; exact Blk.newG (by rw [World.size_alloc, hB]) _ _)
  have HG0 := hide (KG.of (g := g) HB0.out)
  have HGN : Hid (B ≠ g ∧ B + 1 ≠ g ∧ w.heap.size ≤ B) := hide (by omega)
  have HS3 : Hid (∀ wx, ScI wx g l m1 → Calls Tryz.prog 116 #[.pointer (some ⟨g, 0, none⟩), .int .u8 32] wx fun e w' => e = .returned (.bool false) ∧ Below wx.heap.size wx w') := hide (fun wx hx => sees_n g l m1 32 32 false (by decide) h2' wx hx hl)
  have HS4 : Hid (∀ wx, ScI wx g l e1 → Calls Tryz.prog 116 #[.pointer (some ⟨g, 0, none⟩), .int .u8 32] wx fun e w' => e = .returned (.bool false) ∧ Below wx.heap.size wx w') := hide (fun wx hx => sees_n g l e1 32 32 false (by decide) h2e wx hx hl)
  have HKY : Hid (∀ wx, ScI wx g l m1 → Calls Tryz.prog 118 #[.pointer (some ⟨g, 0, none⟩), .slice none 0 0] wx fun e w' => e = .returned (.agg #[.string R1, .string R2]) ∧ KG g wx w' ∧ ScI w' g l e1) := hide (fun wx hx => by rw [hR1, hR2]; exact skey_any g l m1 m2 v q e1 c wx hx hl hn2 y1 y2 hv hc y3 y4 hq he)
  have HE2 : Hid (∀ wx, ScI wx g l e1 → Calls Tryz.prog 115 #[.pointer (some ⟨g, 0, none⟩), .int .u8 62] wx fun e w' => e = .returned (.tuple #[]) ∧ KG g wx w' ∧ ScI w' g l (e1 + 1)) := hide (fun wx hx => eat_n g l e1 62 62 (by decide) wx hx hl h3)
  have HNL : Hid (¬ ((e1 : Int) + 1 < ((bstr l).size : Int))) := hide (by rw [bstr_size, h4]; omega)
  have HM : Hid (e1 ≤ 1000 ∧ m < e1) := hide (by have := hn2.km; omega)
  have HM1 := hide hm1
  clear h h0 h1 h2 h3 h4 hn hl hB hW0 hR hR1 hR2 h2' hm1 hn2 y1 y2 hv hc y3 y4 hq he h2e
  go_enter Tryz.func96, Tryz.ntmps96
  go_wp2_with fail
  rw [← HW.out, ← HBB.out]
  refine (HE1.out _ HK0.out).mono ?_
  rintro e w1 ⟨rfl, hk1, hs1⟩
  have HG1 := hide (HG0.out.trans hk1)
  have HT1 := hide (HT0.out.kg hk1 HGN.out.2.1)
  have HR1 := hide (HR0.out.kg hk1 HGN.out.1)
  have HC1 := hide hs1
  clear hk1 hs1
  go_wp2_with fail
  refine (HS1.out _ HC1.out).mono ?_
  rintro e w2 ⟨rfl, hb2⟩
  have HG2 := hide (HG1.out.trans (.of hb2))
  have HT2 := hide (HT1.out.below hb2)
  have HR2 := hide (HR1.out.below hb2)
  have HC2 : Hid (ScI w2 g l 1) := hide (Blk.below HC1.out hb2)
  clear hb2
  go_wp2_with fail
  refine (HN.out _ (by rw [hk]; exact HC2.out)).mono ?_
  rintro e w3 ⟨rfl, hk3, hs3⟩
  have HG3 := hide (HG2.out.trans hk3)
  have HT3 := hide (HT2.out.kg hk3 HGN.out.2.1)
  have HR3 := hide (HR2.out.kg hk3 HGN.out.1)
  have hf3 := HT3.out.fr 1
  have ht3 := HT3.out.cell (k := 1) rfl
  have HT4 := hide (HT3.out.set 1 (.string R))
  have HR4 := hide (HR3.out.setne (g' := B + 1) (by omega) 1 (.string R))
  have HC4 : Hid (ScI (w3.setCell ⟨B + 1, 1, none⟩ (.string R)) g l m) := hide (Blk.setne hs3 (Ne.symm HGN.out.2.1) 1 _)
  have HG4 := hide (HG3.out.set_new (b := B + 1) (by have := HGN.out.2.2; omega) 1 (.string R))
  clear hk3 hs3
  go_wp2_with fail
  obtain ⟨w4, hw4⟩ : ∃ w4, w4 = w3.setCell ⟨B + 1, 1, none⟩ (.string R) := ⟨_, rfl⟩
  rw [← hw4] at HT4 HR4 HC4 HG4 ⊢
  clear hw4 hf3 ht3 HT3 HR3 HG3 HT2 HR2 HG2 HC2 HT1 HR1 HG1 HC1 HT0 HR0 HG0 HK0
  go_loopw [] (fun wr => Hid (wr = w4 ∨ KG g w wr ∧ Blk wr B [.bool false, .string ⟨#[]⟩, .slice none 0 0] 114 ∧ ScI wr g l e1 ∧ ∃ v, Blk wr (B + 1) [.bool false, .string R, v] 114 ∧ wr.ownsRow (B + 2) 108 2 v 1 [.string R1, .string R2])) (fun wr => e1 - (intOf ((wr.cell? ⟨g, 1, none⟩).getD undef)).toNat)
  case atStart => exact hide (.inl rfl)
  case round =>
    rcases hrel.out with hw | ⟨hg5, hr5, hs5, v5, ht5, ho5⟩
    · obtain rfl : w4 = wr := hw.symm
      have t0 := HT4.out.cell (k := 0) rfl
      go_wp2_with fail
      refine (HS2.out _ HC4.out).mono ?_
      rintro e w5 ⟨rfl, hb5⟩
      have HG5 := hide (HG4.out.trans (.of hb5))
      have HT5 := hide (HT4.out.below hb5)
      have HR5 := hide (HR4.out.below hb5)
      have HC5 : Hid (ScI w5 g l m) := hide (Blk.below HC4.out hb5)
      have HM4 : Hid ((w4.cell? ⟨g, 1, none⟩) = some (.int .i64 (m : Int))) := hide (Blk.cell HC4.out (k := 1) rfl)
      clear hb5 t0
      go_wp2_with fail
      go_loopw [] (fun wr => Hid (KG g w wr ∧ Blk wr B [.bool false, .string ⟨#[]⟩, .slice none 0 0] 114 ∧ Blk wr (B + 1) [.bool false, .string R, .slice none 0 0] 114 ∧ ∃ j : Nat, (j = m ∨ j = m1) ∧ ScI wr g l j)) (fun wr => m1 - (intOf ((wr.cell? ⟨g, 1, none⟩).getD undef)).toNat)
      case atStart => exact hide ⟨HG5.out, HR5.out, HT5.out, m, .inl rfl, HC5.out⟩
      case round =>
        obtain ⟨hg6, hr6, ht6, j, hj, hs6⟩ := hrel.out
        clear HG5 HT5 HR5 HC5
        have HG6 := hide hg6
        have HR6 := hide hr6
        have HT6 := hide ht6
        have HC6 := hide hs6
        clear hg6 hr6 ht6 hs6
        rcases hj with rfl | rfl
        · go_wp2_with fail
          refine (HS2.out _ HC6.out).mono ?_
          rintro e w7 ⟨rfl, hb7⟩
          have hk7 : ScI w7 g l j := Blk.below HC6.out hb7
          have q1 := Blk.cell hk7 (k := 1) rfl
          have f1 := Blk.fr hk7 1
          have hj1 : (j : Int) < 1000 := by have := HM.out; omega
          have HC8 : Hid (ScI (w7.setCell ⟨g, 1, none⟩ (.int .i64 ((j : Int) + 1))) g l m1) := hide (by rw [HM1.out]; exact Blk.set hk7 1 (.int .i64 ((j : Int) + 1)))
          have HR8 := hide ((HR6.out.below hb7).setne HGN.out.1 1 (.int .i64 ((j : Int) + 1)))
          have HT8 := hide ((HT6.out.below hb7).setne HGN.out.2.1 1 (.int .i64 ((j : Int) + 1)))
          have HG8 := hide ((HG6.out.trans (.of hb7)).setCell 1 (.int .i64 ((j : Int) + 1)))
          have HMJ : Hid ((wr.cell? ⟨g, 1, none⟩) = some (.int .i64 (j : Int))) := hide (Blk.cell HC6.out (k := 1) rfl)
          have HMK : Hid ((w7.setCell ⟨g, 1, none⟩ (.int .i64 ((j : Int) + 1))).cell? ⟨g, 1, none⟩ = some (.int .i64 ((m1 : Nat) : Int))) := hide (Blk.cell HC8.out (k := 1) rfl)
          clear hk7 hb7
          go_wp2
          go_roundw
          case rel => exact hide ⟨HG8.out, HR8.out, HT8.out, m1, .inr rfl, HC8.out⟩
          case measure => rw [HMJ.out, HMK.out]; simp [intOf]; have := HM1.out; omega
        · go_wp2_with fail
          refine (HS3.out _ HC6.out).mono ?_
          rintro e w7 ⟨rfl, hb7⟩
          have HG7 := hide (HG6.out.trans (.of hb7))
          have HR7 := hide (HR6.out.below hb7)
          have HT7 := hide (HT6.out.below hb7)
          have HC7 : Hid (ScI w7 g l j) := hide (Blk.below HC6.out hb7)
          clear hb7 HG6 HR6 HT6 HC6
          have hstart : TG g B j e1 l R w7 (fun _ => false) w7.drew := ⟨.of (bl_drew (bl_refl w7)), HT7.out, HR7.out, fun _ => HC7.out, fun h => by simp at h⟩
          go_wp2_with fail
          refine wp_region_E 7 (TG g B j e1 l R w7) (TE g) (by kernel_rfl) (by kernel_rfl) hstart (fun Q HQ => ?_)
          simp only [List.take_succ_cons, List.take_zero, List.map_cons, List.map_nil]
          apply wpE_c rfl
          focus
            intro L ev wx hG hL hM hx
            (try simp [Op.operands, Call.operands, opndS, Slot.holds] at hx)
            have y2 := hG.2.1.cell (k := 2) rfl
            go_simp
            exact ⟨hG.same (bl_refl wx) (by decide), .refl g wx, rfl⟩
          dsimp only [setS, List.set]
          apply wpE_c rfl
          focus
            intro L ev wx hG hL hM hx
            (try simp [Op.operands, Call.operands, opndS, Slot.holds] at hx)
            have y2 := hG.2.1.cell (k := 2) rfl
            go_simp
            exact ⟨hG.same (bl_refl wx) (by decide), .refl g wx, rfl⟩
          dsimp only [setS, List.set]
          apply wpE_c rfl
          focus
            intro L ev wx hG hL hM hx
            (try simp [Op.operands, Call.operands, opndS, Slot.holds] at hx)
            have y2 := hG.2.1.cell (k := 2) rfl
            go_simp
            exact ⟨hG.same (bl_refl wx) (by decide), .refl g wx, rfl⟩
          dsimp only [setS, List.set]
          apply wpE_c rfl
          focus
            intro L ev wx hG hL hM hx
            (try simp [Op.operands, Call.operands, opndS, Slot.holds] at hx)
            have y2 := hG.2.1.cell (k := 2) rfl
            go_simp
            exact ⟨hG.same (bl_refl wx) (by decide), .refl g wx, rfl⟩
          dsimp only [setS, List.set]
          apply wpE_c rfl
          focus
            intro L ev wx hG hL hM hx
            (try simp [Op.operands, Call.operands, opndS, Slot.holds] at hx)
            have y2 := hG.2.1.cell (k := 2) rfl
            go_simp
            exact ⟨hG.same (bl_refl wx) (by decide), .refl g wx, rfl⟩
          dsimp only [setS, List.set]
          apply wpE_c rfl
          focus
            intro L ev wx hG hL hM hx
            (try simp [Op.operands, Call.operands, opndS, Slot.holds] at hx)
            have hsc := hG.2.2.2.1 hL
            go_simp
            refine (HKY.out wx hsc).mono ?_
            rintro e w' ⟨rfl, hk, hs⟩
            exact ⟨_, rfl, ⟨hG.1.trans hk, hG.2.1.kg hk HGN.out.2.1, hG.2.2.1.kg hk HGN.out.1, fun h => absurd h (by simp [upL]), fun _ => hs⟩, hk, rfl⟩
          dsimp only [setS, List.set]
          refine wpE_p (R := PrS g R1 R2) rfl (stabPr _) ?_ ?_
          focus
            intro L ev wx hG hL hM hx
            (try simp [Op.operands, Call.operands, opndS, Slot.holds] at hx)
            have hgx : g < wx.heap.size := Nat.lt_of_lt_of_le (Blk.lt HC7.out) hG.1.size
            go_simp
            exact ⟨hG.same (bl_alloc (bl_refl wx) _) (by decide), .of (bl_alloc (bl_refl wx) _), wx.heap.size, rfl, by omega, Blk.new wx _ _⟩
          dsimp only [setS, List.set]
          refine wpE_nil (HQ _ fun w8 hG8 => ?_)
          simp only [closeS, List.drop_succ_cons, List.drop_zero]
          rintro v41 ⟨b, rfl, hbg, hblk⟩
          obtain ⟨hg8, ht8, hr8, -, hs8⟩ := hG8
          have HG8 := hide (HG7.out.trans hg8)
          have HT8 := hide ht8
          have HR8 := hide hr8
          have HC8 := hide (hs8 (by decide))
          have HRL : Hid (Rd w8 (some ⟨b, 0, none⟩) [.string R1, .string R2]) := hide (.inr ⟨b, 0, rfl, hblk.lt, fun k v hv => by rw [Nat.zero_add]; exact hblk.cell hv⟩)
          have HSA : Hid (B + 2 ≤ w8.heap.size) := hide (by have := ht8.lt; omega)
          have ft := HT8.out.fr 2
          clear hg8 ht8 hr8 hs8 hblk hstart HQ
          go_wp2_with (at_builtin; go_loud (refine wpList_append_rd _ rfl (.tmp 36) (.tmp 41) 74 rfl (B + 2) 108 i2 _ 2 32 Tryz.underlying74 hi2 hz0 hz1 hz2 rfl (by decide) (.slice none 0 0) 0 [] rfl (World.ownsRow_nil _ _ _ _) (some ⟨b, 0, none⟩) 1 1 [.string R1, .string R2] rfl rfl HRL.out (by intro u hu; simp at hu; rcases hu with rfl | rfl <;> rfl) (by simp only [maxLen]; omega) (by omega) HSA.out ?_; intro v2 w9 hown hg1 hat1; obtain ⟨gr, c2, hv, hcc, hgb, hgl⟩ := ownG_pos hown (by omega); subst hv; have HB9 := hide (bl_grown (bl_refl w8) hg1 (fun k hk => by cases hk)); have HO9 := hide hown; have HGR := hide (And.intro hgb hgl); clear hown hg1 hat1 hcc hgb hgl; have t2 := (HT8.out.below HB9.out).cell (k := 2) rfl; have ft2 := (HT8.out.below HB9.out).fr 2))
          have HGa := hide ((HG8.out.trans (.of HB9.out)).set_new (b := B + 1) (by have := HGN.out.2.2; omega) 2 (.slice (some ⟨gr, 0, none⟩) 1 c2))
          have HRa := hide ((HR8.out.below HB9.out).setne (g' := B + 1) (by omega) 2 (.slice (some ⟨gr, 0, none⟩) 1 c2))
          have HTa := hide ((HT8.out.below HB9.out).set 2 (.slice (some ⟨gr, 0, none⟩) 1 c2))
          have HCa : Hid (ScI (w9.setCell ⟨B + 1, 2, none⟩ (.slice (some ⟨gr, 0, none⟩) 1 c2)) g l e1) := hide (Blk.setne (Blk.below HC8.out HB9.out) (Ne.symm HGN.out.2.1) 2 _)
          have HOa := hide (ownG_setlt HO9.out (g := B + 1) (by omega) 2 (.slice (some ⟨gr, 0, none⟩) 1 c2))
          have q1 := Blk.cell HCa.out (k := 1) rfl
          go_roundw
          case rel => exact hide (.inr ⟨HGa.out, HRa.out, HCa.out, _, HTa.out, HOa.out⟩)
          case measure => rw [q1, HM4.out]; simp [intOf]; have := HM.out; omega
    · have HG5 := hide hg5
      have HR5 := hide hr5
      have HC5 := hide hs5
      have HT5 := hide ht5
      have HO5 := hide ho5
      clear hg5 hr5 hs5 ht5 ho5
      have t0 := HT5.out.cell (k := 0) rfl
      go_wp2_with fail
      refine (HS4.out _ HC5.out).mono ?_
      rintro e w7 ⟨rfl, hb7⟩
      have HG7 := hide (HG5.out.trans (.of hb7))
      have HT7 := hide (HT5.out.below hb7)
      have HR7 := hide (HR5.out.below hb7)
      have HO7 := hide (ownG_below HO5.out hb7)
      have HC7 : Hid (ScI w7 g l e1) := hide (Blk.below HC5.out hb7)
      clear hb7 t0
      obtain ⟨gr, c2, hv, hcc, hgb, hgl⟩ := ownG_pos HO7.out (by omega)
      subst hv
      have HRG := hide (And.intro hgb hgl)
      have HGO := hide (show gr ≠ g by have := HGN.out; have := hg; omega)
      clear hcc hgb hgl
      go_wp2_with fail
      refine (HE2.out _ HC7.out).mono ?_
      rintro e w8 ⟨rfl, hk8, hs8⟩
      have HG8 := hide (HG7.out.trans hk8)
      have HT8 := hide (HT7.out.kg hk8 HGN.out.2.1)
      have HR8 := hide (HR7.out.kg hk8 HGN.out.1)
      have HO8 := hide (own_kg HO7.out hk8 (by simp only [Value.ownBlock]; intro e; injection e with e; exact HGO.out e))
      have q0 := Blk.cell hs8 (k := 0) rfl
      have q1 := Blk.cell hs8 (k := 1) rfl
      clear hk8 hs8
      have hnl2 : decide ((e1 : Int) + 1 < ((bstr l).size : Int)) = false := by rw [decide_eq_false_iff_not]; have := HNL.out; omega
      have hnl3 : decide (e1 + 1 < (bstr l).size) = false := by rw [decide_eq_false_iff_not]; have := HNL.out; omega
      have hnl : ¬ ((e1 : Int) + 1 < ((bstr l).size : Int)) := by have := HNL.out; omega
      go_wp2_with fail
      go_quiet (fail)
      clear q0 q1
      have t0 := HT8.out.cell (k := 0) rfl
      have t1 := HT8.out.cell (k := 1) rfl
      have t2 := HT8.out.cell (k := 2) rfl
      go_wp2_with fail
      refine (sorted1_any _ _ R1 R2 _ (by obtain ⟨a, c, e, _, hr⟩ := ownG_form HO8.out; injection e with e1 _ _; rw [e1]; exact hr)).mono ?_
      rintro e w9 ⟨v9, rfl, ho9, hb9x⟩
      have hb9 : Below w8.heap.size w8 w9 := bl_trans (bl_drewN (bl_refl w8) nq) hb9x
      clear hnl hnl2 hnl3 t0 t1 t2
      have HT9 := hide (HT8.out.below hb9)
      have HR9 := hide (HR8.out.below hb9)
      have HG9 := hide (HG8.out.trans (.of hb9))
      have HO9 := hide (ownG_mono (base' := B + 2) ho9 (by have := HT8.out.lt; simp; omega))
      clear ho9 hb9 hb9x
      obtain ⟨g9, c9, hv, _, hgb9, hgl9⟩ := ownG_pos HO9.out (by omega)
      subst hv
      have t0 := HT9.out.cell (k := 0) rfl
      have t1 := HT9.out.cell (k := 1) rfl
      have t2 := HT9.out.cell (k := 2) rfl
      have ft := HT9.out.fr 2
      have fr0 := HR9.out.fr 0
      have fr1 := HR9.out.fr 1
      have fr2 := HR9.out.fr 2
      have HTa := hide (HT9.out.set 2 (.slice (some ⟨g9, 0, none⟩) 1 c9))
      have u0 := HTa.out.cell (k := 0) rfl
      have u1 := HTa.out.cell (k := 1) rfl
      have u2 := HTa.out.cell (k := 2) rfl
      have HRa := hide (HR9.out.setne (g' := B + 1) (by omega) 2 (.slice (some ⟨g9, 0, none⟩) 1 c9))
      have r0 := HRa.out.cell (k := 0) rfl
      have r1 := HRa.out.cell (k := 1) rfl
      have r2 := HRa.out.cell (k := 2) rfl
      have HRb := hide (((HRa.out.set 0 (.bool false)).set 1 (.string R)).set 2 (.slice (some ⟨g9, 0, none⟩) 1 c9))
      have v0 := HRb.out.cell (k := 0) rfl
      have v1 := HRb.out.cell (k := 1) rfl
      have v2 := HRb.out.cell (k := 2) rfl
      have HGa := hide ((((HG9.out.set_new (b := B + 1) (by have := HGN.out.2.2; omega) 2 (.slice (some ⟨g9, 0, none⟩) 1 c9)).set_new (b := B) HGN.out.2.2 0 (.bool false)).set_new (b := B) HGN.out.2.2 1 (.string R)).set_new (b := B) HGN.out.2.2 2 (.slice (some ⟨g9, 0, none⟩) 1 c9))
      have HOa := hide (ownG_mono (base' := w.heap.size) (ownG_setlt (ownG_setlt (ownG_setlt (ownG_setlt HO9.out (g := B + 1) (by omega) 2 (.slice (some ⟨g9, 0, none⟩) 1 c9)) (g := B) (by omega) 0 (.bool false)) (g := B) (by omega) 1 (.string R)) (g := B) (by omega) 2 (.slice (some ⟨g9, 0, none⟩) 1 c9)) (by have := HGN.out.2.2; omega))
      go_wp2
      refine bodyPost_ret (v := .agg #[.bool false, .string R, .slice (some ⟨g9, 0, none⟩) 1 c9]) (by simp [results, Tryz.results96, go_sem, v0, v1, v2]) rfl ⟨_, rfl, HGa.out, HOa.out⟩
end Go.Proofs.YtbpkclopcoaikaaGreatDoor
namespace Go.Proofs.YtbpkclopcoaikaaGreatDoor
open Go.RowKit
set_option linter.unusedVariables false
set_option linter.unusedSimpArgs false
/-- The keys of a tag: none, or one. -/
def KeysP (B : Nat) (ks : Option (ByteArray × ByteArray)) (v : Value) (w : World) : Prop := match ks with
  | none => v = .slice none 0 0
  | some (a, b) => w.ownsRow B 108 2 v 1 [.string a, .string b]
theorem KeysP.below {B : Nat} {ks : Option (ByteArray × ByteArray)} {v : Value} {w w' : World} (h : KeysP B ks v w) (hb : Below w.heap.size w w') : KeysP B ks v w' := by
  cases ks with
  | none => exact h
  | some p => exact ownG_below h hb
theorem KeysP.mono {B B' : Nat} {ks : Option (ByteArray × ByteArray)} {v : Value} {w : World} (h : KeysP B ks v w) (hb : B' ≤ B) : KeysP B' ks v w := by
  cases ks with
  | none => exact h
  | some p => exact ownG_mono h hb
theorem KeysP.setlt {B : Nat} {ks : Option (ByteArray × ByteArray)} {v : Value} {w : World} (h : KeysP B ks v w) {g : Nat} (hg : g < B) (k : Nat) (u : Value) : KeysP B ks v (w.setCell ⟨g, k, none⟩ u) := by
  cases ks with
  | none => exact h
  | some p => exact ownG_setlt h hg k u
theorem KeysP.form {B : Nat} {ks : Option (ByteArray × ByteArray)} {v : Value} {w : World} (h : KeysP B ks v w) : ∃ a n c, v = .slice a n c ∧ n = (if ks.isSome then 1 else 0) := by
  cases ks with
  | none => exact ⟨none, 0, 0, h, rfl⟩
  | some p => obtain ⟨a, c, e, _⟩ := ownG_form h; exact ⟨a, 1, c, e, rfl⟩
def TagQ (g : Nat) (b : Bool) (nm : ByteArray) (ks : Option (ByteArray × ByteArray)) (w : World) (e : Ending) (w' : World) : Prop := ∃ v, e = .returned (.agg #[.bool b, .string nm, v]) ∧ KG g w w' ∧ KeysP w.heap.size ks v w'
def PTagP (b : Bool) (nm : ByteArray) (ks : Option (ByteArray × ByteArray)) (w : World) (e : Ending) (w' : World) : Prop := ∃ v, e = .returned (.tuple #[.agg #[.bool b, .string nm, v], .int .i64 0, .int .i64 0]) ∧ Below w.heap.size w w' ∧ KeysP w.heap.size ks v w'
def TagHas (l : List UInt8) (b : Bool) (nm : ByteArray) (ks : Option (ByteArray × ByteArray)) : Prop := ∀ g wx, ScI wx g l 0 → Calls Tryz.prog 96 #[.pointer (some ⟨g, 0, none⟩)] wx (TagQ g b nm ks wx)
theorem info_fault : (Tryz.prog.info? 135).map (fun i => (i.zero, i.size, i.bytes)) = some (some (.agg #[.int .i64 0, .int .i64 0]), 2, 16) := by kernel_rfl
theorem run_assert_nil (xT : TypeId) (w : World) : (Instr.typeAssert .nilIface xT 135 true).run Tryz.prog w = .ok (.tuple #[.agg #[.int .i64 0, .int .i64 0], .bool false]) w := by
  obtain ⟨i, hi, h0, h1, h2⟩ := info_parts info_fault
  simp [Instr.typeAssert, run_underlying Tryz.underlying135, zeroValue, typeInfo, hi, h0]
set_option maxHeartbeats 2000000 in
set_option maxRecDepth 100000 in
theorem pt_idle (p q r : Option Addr) (w : World) :
    CallsD Tryz.prog 95 #[.pointer p, .pointer q, .pointer r] .returning w fun e u' w' => e = .returned (.tuple #[]) ∧ u' = .returning ∧ Below w.heap.size w w' := by
  have hb := hide (bl_alloc (bl_refl w) (.cells #[.int .i64 0, .int .i64 0] 135 (0, 0)))
  have hta := fun xT w => run_assert_nil xT w
  refine callsD_of_wpS Tryz.func95 rfl fun c₀ cs hu => ?_
  simp only [Tryz.ntmps95, List.size_toArray, List.length_cons, List.length_nil, Nat.reduceAdd, Nat.reduceSub, Array.replicate_succ, Array.replicate_zero, List.push_toArray, List.append_toArray, List.nil_append, List.cons_append]
  apply wpS_seq
  apply wpS_region
  simp [wpOpsS, go_sem, recoverD, hu, Exit.thenS, hta]
  apply wpS_seq
  apply wpS_region
  simp [wpOpsS, go_sem, Exit.thenS]
  refine wpS_cond (t := false) (by simp [Act.eval]) ?_
  simp only [Bool.false_eq_true, if_false]
  refine wpS_of_wp (wp_skip ?_)
  have hbb := hb.out
  clear hta hb
  cases c₀
  simp_all [bodyPostS, results, Tryz.results95]
set_option maxHeartbeats 8000000 in
set_option maxRecDepth 100000 in
theorem ptag_any (l : List UInt8) (b : Bool) (nm : ByteArray) (ks : Option (ByteArray × ByteArray)) (w : World) (ht : TagHas l b nm ks) : Calls Tryz.prog 64 #[.string (bstr l)] w (PTagP b nm ks w) := by
  have hmf : ∀ (fn : Fn) (first cap : Array Value) (w : World), (Instr.makeFunc fn first cap).run Tryz.prog w = .ok (.func fn first cap) w := fun _ _ _ _ => rfl
  have HT := hide ht
  clear ht
  obtain ⟨S, hS⟩ : ∃ S, S = bstr l := ⟨_, rfl⟩
  rw [← hS]
  have HS := hide hS
  clear hS
  obtain ⟨W0, hW0⟩ : ∃ W0, W0 = (((w.alloc (.cells #[.bool false, .string ⟨#[]⟩, .slice none 0 0] 114 (0, 0))).alloc (.cells #[.int .i64 0] 3 (0, 0))).alloc (.cells #[.int .i64 0] 35 (0, 0))).alloc (.cells #[.string S, .int .i64 0] 138 (0, 0)) := ⟨_, rfl⟩
  have HW := hide hW0
  have HB0 : Hid (Below w.heap.size w W0) := hide (by rw [hW0]; exact bl_alloc (bl_alloc (bl_alloc (bl_alloc (bl_refl w) _) _) _) _)
  have HZ0 : Hid (W0.heap.size = w.heap.size + 4) := hide (by rw [hW0]; simp)
  have HT0 : Hid (Blk W0 w.heap.size [.bool false, .string ⟨#[]⟩, .slice none 0 0] 114) := hide (by rw [hW0]; exact (((Blk.new w _ _).alloc _).alloc _).alloc _)
  have HI0 : Hid (Blk W0 (w.heap.size + 1) [.int .i64 0] 3) := hide (by rw [hW0]; exact ((Blk.newG (by simp) _ _).alloc _).alloc _)
  have HE0 : Hid (Blk W0 (w.heap.size + 1 + 1) [.int .i64 0] 35) := hide (by rw [hW0]; exact (Blk.newG (by simp) _ _).alloc _)
  have HS0 : Hid (ScI W0 (w.heap.size + 1 + 1 + 1) l 0) := hide (by rw [hW0]; unfold ScI; rw [← HS.out]; exact Blk.newG (by simp) _ _)
  clear hW0
  go_enter_defers Tryz.func64, Tryz.ntmps64
  go_wp2_with fail
  rw [← HW.out]
  refine (HT.out _ _ HS0.out).mono ?_
  rintro e w1 ⟨v, rfl, hk1, hky⟩
  have HB1 := hide (HB0.out.trans (hk1.below (B := w.heap.size) (by omega) HB0.out.size))
  have HT1 := hide (HT0.out.kg hk1 (by omega))
  have HI1 := hide (HI0.out.kg hk1 (by omega))
  have HE1 := hide (HE0.out.kg hk1 (by omega))
  have HKY := hide (hky.mono (B' := w.heap.size + 1 + 1 + 1) (by rw [HZ0.out]; omega))
  obtain ⟨va, vn, vc, hv, -⟩ := hky.form
  subst hv
  clear hk1 hky
  have HT2 := hide (((HT1.out.set 0 (.bool b)).set 1 (.string nm)).set 2 (.slice va vn vc))
  have HI2 := hide (((HI1.out.setne (g' := w.heap.size) (by omega) 0 (.bool b)).setne (g' := w.heap.size) (by omega) 1 (.string nm)).setne (g' := w.heap.size) (by omega) 2 (.slice va vn vc))
  have HE2 := hide (((HE1.out.setne (g' := w.heap.size) (by omega) 0 (.bool b)).setne (g' := w.heap.size) (by omega) 1 (.string nm)).setne (g' := w.heap.size) (by omega) 2 (.slice va vn vc))
  have HK2 := hide (((HKY.out.setlt (g := w.heap.size) (by omega) 0 (.bool b)).setlt (g := w.heap.size) (by omega) 1 (.string nm)).setlt (g := w.heap.size) (by omega) 2 (.slice va vn vc))
  have HB2 := hide (bl_set (bl_set (bl_set HB1.out (p := ⟨w.heap.size, 0, none⟩) (Nat.le_refl _) (.bool b)) (p := ⟨w.heap.size, 1, none⟩) (Nat.le_refl _) (.string nm)) (p := ⟨w.heap.size, 2, none⟩) (Nat.le_refl _) (.slice va vn vc))
  have a0 := HT1.out.cell (k := 0) rfl
  have a1 := HT1.out.cell (k := 1) rfl
  have a2 := HT1.out.cell (k := 2) rfl
  have f0 := HT1.out.fr 0
  have f1 := HT1.out.fr 1
  have f2 := HT1.out.fr 2
  have b0 := HI2.out.cell (k := 0) rfl
  have g0 := HI2.out.fr 0
  have c0 := HE2.out.cell (k := 0) rfl
  have h0 := HE2.out.fr 0
  go_wp2
  refine leaves_cons (f := 95) (args := #[.pointer (some ⟨w.heap.size, 0, none⟩), .pointer (some ⟨w.heap.size + 1, 0, none⟩), .pointer (some ⟨w.heap.size + 1 + 1, 0, none⟩)]) (by simp) (by simp [go_sem]) ?_
  refine (pt_idle _ _ _ _).mono ?_
  rintro e u' w3 ⟨rfl, rfl, hb3⟩
  have HT3 := ((HT2.out.setne (g' := w.heap.size + 1) (by omega) 0 (.int .i64 0)).setne (g' := w.heap.size + 1 + 1) (by omega) 0 (.int .i64 0)).below hb3
  have HI3 := ((HI2.out.set 0 (.int .i64 0)).setne (g' := w.heap.size + 1 + 1) (by omega) 0 (.int .i64 0)).below hb3
  have HE3 := ((HE2.out.setne (g' := w.heap.size + 1) (by omega) 0 (.int .i64 0)).set 0 (.int .i64 0)).below hb3
  have HK3 := ((HK2.out.setlt (g := w.heap.size + 1) (by omega) 0 (.int .i64 0)).setlt (g := w.heap.size + 1 + 1) (by omega) 0 (.int .i64 0)).below hb3
  have HB3 := (bl_set (bl_set HB2.out (p := ⟨w.heap.size + 1, 0, none⟩) (by simp only; omega) (.int .i64 0)) (p := ⟨w.heap.size + 1 + 1, 0, none⟩) (by simp only; omega) (.int .i64 0))
  have HB4 := bl_trans HB3 hb3
  have d0 := HT3.cell (k := 0) rfl
  have d1 := HT3.cell (k := 1) rfl
  have d2 := HT3.cell (k := 2) rfl
  have d3 := HI3.cell (k := 0) rfl
  have d4 := HE3.cell (k := 0) rfl
  refine ⟨.tuple #[.agg #[.bool b, .string nm, .slice va vn vc], .int .i64 0, .int .i64 0], by simp [results, Tryz.results64, go_sem, d0, d1, d2, d3, d4], _, rfl, HB4, HK3.mono (by omega)⟩
end Go.Proofs.YtbpkclopcoaikaaGreatDoor
