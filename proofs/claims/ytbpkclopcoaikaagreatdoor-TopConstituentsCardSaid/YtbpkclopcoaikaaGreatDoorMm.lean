/- The walks of bracket's writer: its memory; item, line. The walks of bracket's writer: close, tokens. The walk of bracket's writer.tokens. -/
import Derived.Test.YtbpkclopcoaikaaGreatDoorMh
import Derived.Test.YtbpkclopcoaikaaGreatDoorMe
import Derived.Test.YtbpkclopcoaikaaGreatDoorMf
namespace Go.Proofs.YtbpkclopcoaikaaGreatDoor
open Go.RowKit
set_option linter.unusedVariables false
set_option linter.unusedSimpArgs false
/-- The writer's box and its two rows. -/
structure WrI (w : World) (g : Nat) (ao : Option Addr) (m co : Nat) (ap : Option Addr) (n cp : Nat) (xs : List Value) (op : List Int) (k : Int) : Prop where
  bx : Blk w g [.slice ao m co, .slice ap n cp, .int .i64 k] 82
  out : w.ownsRow (g + 1) 5 1 (.slice ao m co) m xs
  by_ : ∀ u ∈ xs, ∃ c : UInt8, u = u8v c
  opn : w.ownsRow (g + 1) 3 1 (.slice ap n cp) n (op.map iv)
  len : n = op.length
def WrS (w : World) (g m n : Nat) (k : Int) : Prop := ∃ ao co ap cp xs op, WrI w g ao m co ap n cp xs op k
/-- What a step of the writer keeps. -/
structure WFr (g : Nat) (w w' : World) : Prop where
  b : Below g w w'
  r : ∀ (j : Nat) (cs : List Value) (T : TypeId), j ≠ g → T ≠ 5 → T ≠ 3 → Blk w j cs T → Blk w' j cs T
theorem WFr.refl (g : Nat) (w : World) : WFr g w w := ⟨.refl _ _, fun _ _ _ _ _ _ h => h⟩
theorem WFr.trans {g : Nat} {a b c : World} (h : WFr g a b) (h' : WFr g b c) : WFr g a c := ⟨h.b.trans h'.b, fun j cs T h1 h2 h3 h4 => h'.r j cs T h1 h2 h3 (h.r j cs T h1 h2 h3 h4)⟩
theorem WFr.of {g : Nat} {w w' : World} (hb : Below w.heap.size w w') (hg : g ≤ w.heap.size) : WFr g w w' := ⟨hb.mono hg, fun j cs T _ _ _ h => h.below hb⟩
theorem WrI.below {w w' : World} {g m co n cp : Nat} {ao ap : Option Addr} {xs : List Value} {op : List Int} {k : Int} (h : WrI w g ao m co ap n cp xs op k) (hb : Below w.heap.size w w') : WrI w' g ao m co ap n cp xs op k := ⟨h.bx.below hb, ownG_below h.out hb, h.by_, ownG_below h.opn hb, h.len⟩
theorem WrI.outG {w wa w3 : World} {g m co n cp m' c' gT : Nat} {ao ap : Option Addr} {xs xs' : List Value} {op : List Int} {k : Int} (h : WrI w g ao m co ap n cp xs op k) (hb : Below w.heap.size w wa) (hg : wa.grownBy w3 (Value.slice ao m co).ownBlock)
    (ho : w3.ownsRow (g + 1) 5 1 (.slice (some ⟨gT, 0, none⟩) m' c') m' xs') (hx : ∀ u ∈ xs', ∃ c : UInt8, u = u8v c) :
    WrI (w3.setCell ⟨g, 0, none⟩ (.slice (some ⟨gT, 0, none⟩) m' c')) g (some ⟨gT, 0, none⟩) m' c' ap n cp xs' op k ∧ WFr g w (w3.setCell ⟨g, 0, none⟩ (.slice (some ⟨gT, 0, none⟩) m' c')) := by
  have hi := h.below hb
  have hgl := h.bx.lt
  have hne : (Value.slice ao m co).ownBlock ≠ some g := fun e => by have := (ownG_lt h.out e).1; omega
  refine ⟨⟨(hi.bx.grown hg hne).set 0 _, ownG_setlt ho (by omega) 0 _, hx, ownG_setlt (ownG_grown hi.opn hg fun q hq e => own_ty_apart hi.opn hi.out (by decide) q hq e) (by omega) 0 _, h.len⟩, ⟨?_, fun j cs T h1 h2 h3 h4 => ?_⟩⟩
  · have h1 : Below g w w3 := (hb.mono (Nat.le_of_lt hgl)).grown hg (by have := hb.size; omega) (fun q hq => by have := (ownG_lt h.out hq).1; omega)
    exact h1.setCell (p := ⟨g, 0, none⟩) (Nat.le_refl _) _
  · have h5 := h4.below hb
    exact (h5.grown hg (own_ne_blk hi.out h5 (Ne.symm h2))).setne h1 0 _
theorem WrI.opnG {w wa w3 : World} {g m co n cp n' c' gT : Nat} {ao ap : Option Addr} {xs : List Value} {op op' : List Int} {k : Int} (h : WrI w g ao m co ap n cp xs op k) (hb : Below w.heap.size w wa) (hg : wa.grownBy w3 (Value.slice ap n cp).ownBlock)
    (ho : w3.ownsRow (g + 1) 3 1 (.slice (some ⟨gT, 0, none⟩) n' c') n' (op'.map iv)) (hl : n' = op'.length) :
    WrI (w3.setCell ⟨g, 1, none⟩ (.slice (some ⟨gT, 0, none⟩) n' c')) g ao m co (some ⟨gT, 0, none⟩) n' c' xs op' k ∧ WFr g w (w3.setCell ⟨g, 1, none⟩ (.slice (some ⟨gT, 0, none⟩) n' c')) := by
  have hi := h.below hb
  have hgl := h.bx.lt
  have hne : (Value.slice ap n cp).ownBlock ≠ some g := fun e => by have := (ownG_lt h.opn e).1; omega
  refine ⟨⟨(hi.bx.grown hg hne).set 1 _, ownG_setlt (ownG_grown hi.out hg fun q hq e => own_ty_apart hi.out hi.opn (by decide) q hq e) (by omega) 1 _, h.by_, ownG_setlt ho (by omega) 1 _, hl⟩, ⟨?_, fun j cs T h1 h2 h3 h4 => ?_⟩⟩
  · have h1 : Below g w w3 := (hb.mono (Nat.le_of_lt hgl)).grown hg (by have := hb.size; omega) (fun q hq => by have := (ownG_lt h.opn hq).1; omega)
    exact h1.setCell (p := ⟨g, 1, none⟩) (Nat.le_refl _) _
  · have h5 := h4.below hb
    exact (h5.grown hg (own_ne_blk hi.opn h5 (Ne.symm h3))).setne h1 1 _
theorem by_app {xs : List Value} (h : ∀ u ∈ xs, ∃ c : UInt8, u = u8v c) (c : UInt8) {v : Value} (hv : v = u8v c) : ∀ u ∈ xs ++ [v], ∃ c : UInt8, u = u8v c := fun u hu => by
  rcases List.mem_append.1 hu with hu | hu
  · exact h u hu
  · simp at hu
    exact ⟨c, hu.trans hv⟩
def WrP (g m n : Nat) (k : Int) (w : World) (e : Ending) (w' : World) : Prop := e = .returned (.tuple #[]) ∧ ∃ m', m' ≤ m + 1 ∧ WrS w' g m' n k ∧ WFr g w w'
set_option maxHeartbeats 4000000 in
set_option maxRecDepth 100000 in
theorem witem_any (g m n : Nat) (k : Int) (w : World) (h : WrS w g m n k) (hm : m ≤ 100000) (hn : n ≤ 100000) : Calls Tryz.prog 32 #[.pointer (some ⟨g, 0, none⟩)] w (WrP g m n k w) := by
  obtain ⟨i2, hi2, hz0, hz1, hz2⟩ := info_parts info_u8'
  obtain ⟨ao, co, ap, cp, xs, op, hI⟩ := h
  have HI := hide hI
  have r0 := Blk.cell HI.out.bx (k := 0) rfl
  have r1 := Blk.cell HI.out.bx (k := 1) rfl
  clear hI
  go_enter Tryz.func32, Tryz.ntmps32
  by_cases h0 : n = 0
  · have hn0 : ¬ (0 : Int) < (n : Int) := (by omega); clear h0
    go_wp2
    go_end0
    exact ⟨rfl, m, by omega, ⟨_, _, _, _, _, _, HI.out⟩, .refl _ _⟩
  · have hn0 : (0 : Int) < (n : Int) := (by omega); clear h0
    have HRL := hide (rd_lit w #[.int .u8 32] 5 (0, 0))
    have HB := hide (bl_alloc (bl_refl w) (.cells #[.int .u8 32] 5 (0, 0)))
    have HOA := hide (ownG_below HI.out.out HB.out)
    have HSA := hide (show g + 1 ≤ (w.alloc (.cells #[.int .u8 32] 5 (0, 0))).heap.size by have := HI.out.bx.lt; have := HB.out.size; omega)
    go_wp2_with (at_builtin; go_loud (refine wpList_append_rd _ rfl (.tmp 12) (.tmp 13) 80 rfl (g + 1) 5 i2 _ 1 1 Tryz.underlying80 hi2 hz0 hz1 hz2 rfl (by decide) (.slice ao m co) m xs rfl HOA.out (some ⟨w.heap.size, 0, none⟩) 1 1 [.int .u8 32] rfl rfl HRL.out (by intro u hu; simp at hu; subst hu; rfl) (by simp only [maxLen]; omega) (by omega) HSA.out ?_); intro v2 w3 hown hg1 hat1; obtain ⟨gT, cT, hv, hcc, hgb, hgl⟩ := ownG_pos hown (by omega); subst hv; have HG := hide (HI.out.outG HB.out hg1 hown (by_app HI.out.by_ 32 rfl)); have hbx : Blk w3 g [.slice ao m co, .slice ap n cp, .int .i64 k] 82 := Blk.grown (HI.out.below HB.out).bx hg1 (fun e => by have := (ownG_lt HI.out.out e).1; omega); have q0 := hbx.cell (k := 0) rfl; have q1 := hbx.fr 0; clear hown hg1 hat1 hcc hgb hgl hbx r0 r1)
    go_end0
    exact ⟨rfl, m + 1, by omega, ⟨_, _, _, _, _, _, HG.out.1⟩, HG.out.2⟩
set_option maxHeartbeats 4000000 in
set_option maxRecDepth 100000 in
theorem wline_any (g m n : Nat) (k : Int) (w : World) (h : WrS w g m n k) (hm : m ≤ 100000) (hn : n ≤ 100000) : Calls Tryz.prog 52 #[.pointer (some ⟨g, 0, none⟩)] w (WrP g m n k w) := by
  obtain ⟨i2, hi2, hz0, hz1, hz2⟩ := info_parts info_u8'
  obtain ⟨ao, co, ap, cp, xs, op, hI⟩ := h
  have HI := hide hI
  have r0 := Blk.cell HI.out.bx (k := 0) rfl
  have r1 := Blk.cell HI.out.bx (k := 1) rfl
  clear hI
  go_enter Tryz.func52, Tryz.ntmps52
  by_cases h0 : ¬ n = 0
  · have hn0 : ((n : Int) == 0) = false := (by rw [beq_eq_false_iff_ne]; omega)
    go_wp2
    go_end0
    exact ⟨rfl, m, by omega, ⟨_, _, _, _, _, _, HI.out⟩, .refl _ _⟩
  · have hn0 : ((n : Int) == 0) = true := (by rw [beq_iff_eq]; omega); clear h0
    have HRL := hide (rd_lit w #[.int .u8 10] 5 (0, 0))
    have HB := hide (bl_alloc (bl_refl w) (.cells #[.int .u8 10] 5 (0, 0)))
    have HOA := hide (ownG_below HI.out.out HB.out)
    have HSA := hide (show g + 1 ≤ (w.alloc (.cells #[.int .u8 10] 5 (0, 0))).heap.size by have := HI.out.bx.lt; have := HB.out.size; omega)
    go_wp2_with (at_builtin; go_loud (refine wpList_append_rd _ rfl (.tmp 12) (.tmp 13) 80 rfl (g + 1) 5 i2 _ 1 1 Tryz.underlying80 hi2 hz0 hz1 hz2 rfl (by decide) (.slice ao m co) m xs rfl HOA.out (some ⟨w.heap.size, 0, none⟩) 1 1 [.int .u8 10] rfl rfl HRL.out (by intro u hu; simp at hu; subst hu; rfl) (by simp only [maxLen]; omega) (by omega) HSA.out ?_); intro v2 w3 hown hg1 hat1; obtain ⟨gT, cT, hv, hcc, hgb, hgl⟩ := ownG_pos hown (by omega); subst hv; have HG := hide (HI.out.outG HB.out hg1 hown (by_app HI.out.by_ 10 rfl)); have hbx : Blk w3 g [.slice ao m co, .slice ap n cp, .int .i64 k] 82 := Blk.grown (HI.out.below HB.out).bx hg1 (fun e => by have := (ownG_lt HI.out.out e).1; omega); have q0 := hbx.cell (k := 0) rfl; have q1 := hbx.fr 0; clear hown hg1 hat1 hcc hgb hgl hbx r0 r1)
    go_end0
    exact ⟨rfl, m + 1, by omega, ⟨_, _, _, _, _, _, HG.out.1⟩, HG.out.2⟩
end Go.Proofs.YtbpkclopcoaikaaGreatDoor
namespace Go.Proofs.YtbpkclopcoaikaaGreatDoor
open Go.RowKit
set_option linter.unusedVariables false
set_option linter.unusedSimpArgs false
theorem WrI.pop {w : World} {g m co n cp : Nat} {ao : Option Addr} {gp : Nat} {xs : List Value} {op : List Int} {k : Int} (h : WrI w g ao m co (some ⟨gp, 0, none⟩) (n + 1) cp xs op k) :
    WrI (w.setCell ⟨g, 1, none⟩ (.slice (some ⟨gp, 0, none⟩) n cp)) g ao m co (some ⟨gp, 0, none⟩) n cp xs (op.take n) k ∧ WFr g w (w.setCell ⟨g, 1, none⟩ (.slice (some ⟨gp, 0, none⟩) n cp)) := by
  have hl := h.len
  have ht := ownG_take h.opn (i := n) (by omega)
  rw [Nat.mul_one] at ht
  rw [← List.map_take] at ht
  exact ⟨⟨h.bx.set 1 _, ownG_setlt h.out (by omega) 1 _, h.by_, ownG_setlt ht (by omega) 1 _, by rw [List.length_take]; omega⟩, ⟨(Below.refl g w).setCell (p := ⟨g, 1, none⟩) (Nat.le_refl _) _, fun j cs T h1 h2 h3 h4 => h4.setne h1 1 _⟩⟩
def WcP (g m n : Nat) (k : Int) (w : World) (e : Ending) (w' : World) : Prop := e = .returned (.tuple #[]) ∧ ∃ m' n', m' + 2 * n' ≤ m + 2 * n ∧ WrS w' g m' n' k ∧ WFr g w w'
set_option maxHeartbeats 8000000 in
set_option maxRecDepth 100000 in
theorem wclose_any (g m n : Nat) (k : Int) (w : World) (h : WrS w g m n k) (hm : m + 2 * n ≤ 100000) : Calls Tryz.prog 53 #[.pointer (some ⟨g, 0, none⟩)] w (WcP g m n k w) := by
  obtain ⟨i2, hi2, hz0, hz1, hz2⟩ := info_parts info_u8'
  have HS := hide h
  clear h
  go_enter Tryz.func53, Tryz.ntmps53
  go_wp2_with fail
  go_loopw [] (fun wr => ∃ m' n', m' + 2 * n' ≤ m + 2 * n ∧ Hid (WrS wr g m' n' k) ∧ Hid (WFr g w wr)) (fun wr => lenS ((wr.cell? ⟨g, 1, none⟩).getD undef))
  case atStart => exact ⟨m, n, by omega, HS, hide (.refl _ _)⟩
  case round =>
    obtain ⟨m1, n1, hmn, HS1, HF1⟩ := hrel
    obtain ⟨ao, co, ap, cp, xs, op, hI⟩ := HS1.out
    have HI := hide hI
    have r0 := Blk.cell HI.out.bx (k := 0) rfl
    have r1 := Blk.cell HI.out.bx (k := 1) rfl
    have r2 := Blk.cell HI.out.bx (k := 2) rfl
    have HM := hide (show lenS ((wr.cell? ⟨g, 1, none⟩).getD undef) = n1 by rw [r1]; rfl)
    by_cases h0 : n1 = 0
    · subst h0
      have hn0 : ¬ (0 : Int) < 0 := by omega
      go_wp2_with fail
      go_quiet (fail)
      go_wp2
      go_end0
      exact ⟨rfl, m1, 0, hmn, ⟨_, _, _, _, _, _, HI.out.below (bl_drewN (bl_refl wr) nq)⟩, HF1.out.trans (.of (bl_drewN (bl_refl wr) nq) (Nat.le_of_lt HI.out.bx.lt))⟩
    · obtain ⟨n2, rfl⟩ : ∃ n2, n1 = n2 + 1 := ⟨n1 - 1, by omega⟩
      obtain ⟨gp, c', hv, hcc, hgp, hgl⟩ := ownG_pos HI.out.opn (by omega)
      injection hv with hv1 _ hv2
      subst hv1 hv2
      have hc0 : ¬ cp = 0 := by omega
      have hc2 : n2 ≤ cp := by omega
      clear hcc hgl
      obtain ⟨x, hx⟩ : ∃ x, op[n2]? = some x := ⟨_, List.getElem?_eq_getElem (by have := HI.out.len; omega)⟩
      have o1 := (ownG_at (k := n2) HI.out.opn (by rw [List.getElem?_map, hx]; rfl)).1
      simp only [iv] at o1
      clear hx hI
      have hn0 : (0 : Int) < ((n2 + 1 : Nat) : Int) := by omega
      have hnn : IntKind.i64.wrap (((n2 + 1 : Nat) : Int) - 1) = (n2 : Int) := by rw [IntKind.wrap_i64]; omega
      by_cases hxk : x = k
      · have hxk' : (x == k) = true := by rw [beq_iff_eq]; exact hxk
        subst hxk
        go_wp2_with fail
        go_quiet (fail)
        obtain ⟨w1, hw1⟩ : ∃ w1, w1 = wr.drewN nq := ⟨_, rfl⟩
        have HB1 : Hid (Below wr.heap.size wr w1) := hide (by rw [hw1]; exact bl_drewN (bl_refl wr) nq)
        rw [← hw1]
        clear hw1 r0 r1 r2 o1
        have HI1 := hide (HI.out.below HB1.out)
        have HF2 := hide (HF1.out.trans (.of HB1.out (Nat.le_of_lt HI.out.bx.lt)))
        have r0 := Blk.cell HI1.out.bx (k := 0) rfl
        have HRL := hide (rd_lit w1 #[.int .u8 41] 5 (0, 0))
        have HB := hide (bl_alloc (bl_refl w1) (.cells #[.int .u8 41] 5 (0, 0)))
        have HOA := hide (ownG_below HI1.out.out HB.out)
        have HSA := hide (show g + 1 ≤ (w1.alloc (.cells #[.int .u8 41] 5 (0, 0))).heap.size by have := HI1.out.bx.lt; have := HB.out.size; omega)
        go_wp2_with (at_builtin; go_loud (refine wpList_append_rd _ rfl (.tmp 31) (.tmp 32) 80 rfl (g + 1) 5 i2 _ 1 1 Tryz.underlying80 hi2 hz0 hz1 hz2 rfl (by decide) (.slice ao m1 co) m1 xs rfl HOA.out (some ⟨w1.heap.size, 0, none⟩) 1 1 [.int .u8 41] rfl rfl HRL.out (by intro u hu; simp at hu; subst hu; rfl) (by simp only [maxLen]; omega) (by omega) HSA.out ?_); intro v2 w3 hown hg1 hat1; obtain ⟨gT, cT, hv, hcc, hgb, hgl⟩ := ownG_pos hown (by omega); subst hv; have HG := hide (HI1.out.outG HB.out hg1 hown (by_app HI1.out.by_ 41 rfl)); have hbx : Blk w3 g [.slice ao m1 co, .slice (some ⟨gp, 0, none⟩) (n2 + 1) cp, .int .i64 x] 82 := Blk.grown (HI1.out.below HB.out).bx hg1 (fun e => by have := (ownG_lt HI1.out.out e).1; omega); have q0 := hbx.cell (k := 0) rfl; have q1 := hbx.fr 0; clear hown hg1 hat1 hcc hgb hgl hbx r0)
        obtain ⟨w4, hw4⟩ : ∃ w4, w4 = w3.setCell ⟨g, 0, none⟩ (.slice (some ⟨gT, 0, none⟩) (m1 + 1) cT) := ⟨_, rfl⟩
        rw [← hw4] at HG ⊢
        clear hw4 q0 q1
        have HF4 := hide (HF2.out.trans HG.out.2)
        have HI4 := hide HG.out.1
        have r1 := Blk.cell HI4.out.bx (k := 1) rfl
        have f1 := Blk.fr HI4.out.bx 1
        have hw2 : IntKind.i64.wrap (n2 : Int) = (n2 : Int) := by rw [IntKind.wrap_i64]; omega
        clear HG HOA HRL HB HSA HI1
        refine wp_region_K 14 (by kernel_rfl) (by kernel_rfl) (fun Q HQ => ?_)
        simp only [List.take_succ_cons, List.take_zero, List.map_cons, List.map_nil]
        repeat
          first
          | (refine wpS_skip (b := true) rfl (guard_mk rfl rfl) ?_)
          | (refine wpS_skip (b := false) rfl (guard_mk rfl rfl) ?_)
          | (refine wpS_skipU rfl (guardU_mk rfl rfl) ?_)
          | (first | apply wpS_c rfl | apply wpS_gc rfl (guard_mk rfl rfl)
             focus
               intro ev wx hC hx
               (try simp [Op.operands, Call.operands, opndS, Slot.holds] at hx)
               have c1 := hC.cell r1
               go_simp
               try (first | exact rfl | exact ⟨Below.refl _ _, rfl⟩)
               done)
          dsimp only [setS, List.set]
        refine wpS_nil (HQ _ fun w5 hC5 => ?_)
        simp only [closeS, List.drop_succ_cons, List.drop_zero, List.drop_nil]
        have HB5 : Hid (Below w4.heap.size w4 w5) := hide hC5.below
        clear HQ hC5 r1 f1
        have HI5 := hide (HI4.out.below HB5.out)
        have HF5 := hide (HF4.out.trans (.of HB5.out (Nat.le_of_lt HI4.out.bx.lt)))
        have r1 := Blk.cell HI5.out.bx (k := 1) rfl
        have f1 := Blk.fr HI5.out.bx 1
        have HP := hide HI5.out.pop
        have HL : Hid (∀ wx, WrS wx g (m1 + 1) n2 x → Calls Tryz.prog 52 #[.pointer (some ⟨g, 0, none⟩)] wx (WrP g (m1 + 1) n2 x wx)) := hide (fun wx hx => wline_any g (m1 + 1) n2 x wx hx (by omega) (by omega))
        clear hw2 hnn hn0
        go_wp2_with fail
        refine (HL.out _ ⟨_, _, _, _, _, _, HP.out.1⟩).mono ?_
        rintro e w6 ⟨rfl, m6, hm6, hs6, hf6⟩
        have HS6 := hide hs6
        have HF6 := hide ((HF5.out.trans HP.out.2).trans hf6)
        have HM6 : Hid (lenS ((w6.cell? ⟨g, 1, none⟩).getD undef) = n2) := hide (by
          obtain ⟨_, _, _, _, _, _, hi⟩ := hs6
          rw [Blk.cell hi.bx (k := 1) rfl]
          rfl)
        clear hs6 hf6 r1 f1
        go_wp2
        go_roundw
        case rel => exact ⟨m6, n2, by omega, HS6, HF6⟩
        case measure => rw [HM.out, HM6.out]; omega
      · have hxk' : (x == k) = false := by rw [beq_eq_false_iff_ne]; exact hxk
        go_wp2_with fail
        go_quiet (fail)
        go_wp2
        go_end0
        exact ⟨rfl, m1, n2 + 1, hmn, ⟨_, _, _, _, _, _, HI.out.below (bl_drewN (bl_refl wr) nq)⟩, HF1.out.trans (.of (bl_drewN (bl_refl wr) nq) (Nat.le_of_lt HI.out.bx.lt))⟩
end Go.Proofs.YtbpkclopcoaikaaGreatDoor
namespace Go.Proofs.YtbpkclopcoaikaaGreatDoor
open Go.RowKit
set_option linter.unusedVariables false
set_option linter.unusedSimpArgs false
theorem WrI.seek {w : World} {g m co n cp : Nat} {ao ap : Option Addr} {xs : List Value} {op : List Int} {k : Int} (h : WrI w g ao m co ap n cp xs op k) (k' : Int) :
    WrI (w.setCell ⟨g, 2, none⟩ (.int .i64 k')) g ao m co ap n cp xs op k' ∧ WFr g w (w.setCell ⟨g, 2, none⟩ (.int .i64 k')) :=
  ⟨⟨h.bx.set 2 _, ownG_setlt h.out (by omega) 2 _, h.by_, ownG_setlt h.opn (by omega) 2 _, h.len⟩, ⟨(Below.refl g w).setCell (p := ⟨g, 2, none⟩) (Nat.le_refl _) _, fun j cs T h1 h2 h3 h4 => h4.setne h1 2 _⟩⟩
theorem WrS.at_ {w : World} {g m n : Nat} {k : Int} (h : WrS w g m n k) : w.cell? ⟨g, 2, none⟩ = some (.int .i64 k) := by
  obtain ⟨_, _, _, _, _, _, hi⟩ := h
  exact Blk.cell hi.bx (k := 2) rfl
def WtP (g m n k t : Nat) (w : World) (e : Ending) (w' : World) : Prop := e = .returned (.tuple #[]) ∧ ∃ m' n' k' : Nat, k ≤ k' ∧ (k' = k ∨ k' ≤ t) ∧ m' + 2 * n' + 3 * k ≤ m + 2 * n + 3 * k' ∧ WrS w' g m' n' (k' : Int) ∧ WFr g w w'
set_option maxHeartbeats 8000000 in
set_option maxRecDepth 100000 in
theorem wtokens_any (g m n k t : Nat) (w : World) (h : WrS w g m n (k : Int)) (hm : m + 2 * n ≤ 50000) (ht : t ≤ 100) : Calls Tryz.prog 31 #[.pointer (some ⟨g, 0, none⟩), .int .i64 (t : Int)] w (WtP g m n k t w) := by
  obtain ⟨i2, hi2, hz0, hz1, hz2⟩ := info_parts info_u8'
  have HS := hide h
  clear h
  go_enter Tryz.func31, Tryz.ntmps31
  go_wp2_with fail
  go_loopw [] (fun wr => ∃ m' n' k' : Nat, k ≤ k' ∧ (k' = k ∨ k' ≤ t) ∧ m' + 2 * n' + 3 * k ≤ m + 2 * n + 3 * k' ∧ Hid (WrS wr g m' n' (k' : Int)) ∧ Hid (WFr g w wr)) (fun wr => t - (intOf ((wr.cell? ⟨g, 2, none⟩).getD undef)).toNat)
  case atStart => exact ⟨m, n, k, by omega, .inl rfl, by omega, HS, hide (.refl _ _)⟩
  case round =>
    obtain ⟨m1, n1, k1, hk1, hk2, hk3, HS1, HF1⟩ := hrel
    have r2 := HS1.out.at_
    have HM := hide (show (intOf ((wr.cell? ⟨g, 2, none⟩).getD undef)).toNat = k1 by rw [r2]; simp [intOf])
    by_cases hkt : k1 < t
    · have hkt' : (k1 : Int) < (t : Int) := by omega
      have HIT : Hid (∀ wx, WrS wx g m1 n1 (k1 : Int) → Calls Tryz.prog 32 #[.pointer (some ⟨g, 0, none⟩)] wx (WrP g m1 n1 (k1 : Int) wx)) := hide (fun wx hx => witem_any g m1 n1 _ wx hx (by omega) (by omega))
      go_wp2_with fail
      refine (HIT.out _ HS1.out).mono ?_
      rintro e w2 ⟨rfl, m2, hm2, hs2, hf2⟩
      have HF2 := hide (HF1.out.trans hf2)
      clear r2 HIT hf2
      obtain ⟨ao, co, ap, cp, xs, op, hI⟩ := hs2
      have HI := hide hI
      clear hI
      have r0 := Blk.cell HI.out.bx (k := 0) rfl
      have HRL := hide (rd_lit w2 #[.int .u8 42] 5 (0, 0))
      have HB := hide (bl_alloc (bl_refl w2) (.cells #[.int .u8 42] 5 (0, 0)))
      have HOA := hide (ownG_below HI.out.out HB.out)
      have HSA := hide (show g + 1 ≤ (w2.alloc (.cells #[.int .u8 42] 5 (0, 0))).heap.size by have := HI.out.bx.lt; have := HB.out.size; omega)
      go_wp2_with (at_builtin; go_loud (refine wpList_append_rd _ rfl (.tmp 16) (.tmp 17) 80 rfl (g + 1) 5 i2 _ 1 1 Tryz.underlying80 hi2 hz0 hz1 hz2 rfl (by decide) (.slice ao m2 co) m2 xs rfl HOA.out (some ⟨w2.heap.size, 0, none⟩) 1 1 [.int .u8 42] rfl rfl HRL.out (by intro u hu; simp at hu; subst hu; rfl) (by simp only [maxLen]; omega) (by omega) HSA.out ?_); intro v2 w3 hown hg1 hat1; obtain ⟨gT, cT, hv, hcc, hgb, hgl⟩ := ownG_pos hown (by omega); subst hv; have HG := hide (HI.out.outG HB.out hg1 hown (by_app HI.out.by_ 42 rfl)); have hbx : Blk w3 g [.slice ao m2 co, .slice ap n1 cp, .int .i64 (k1 : Int)] 82 := Blk.grown (HI.out.below HB.out).bx hg1 (fun e => by have := (ownG_lt HI.out.out e).1; omega); have q0 := hbx.cell (k := 0) rfl; have q1 := hbx.fr 0; clear hown hg1 hat1 hcc hgb hgl hbx r0)
      obtain ⟨w4, hw4⟩ : ∃ w4, w4 = w3.setCell ⟨g, 0, none⟩ (.slice (some ⟨gT, 0, none⟩) (m2 + 1) cT) := ⟨_, rfl⟩
      rw [← hw4] at HG ⊢
      clear hw4 q0 q1
      have HF4 := hide (HF2.out.trans HG.out.2)
      have HI4 := hide HG.out.1
      have HLN : Hid (∀ wx, WrS wx g (m2 + 1) n1 (k1 : Int) → Calls Tryz.prog 52 #[.pointer (some ⟨g, 0, none⟩)] wx (WrP g (m2 + 1) n1 (k1 : Int) wx)) := hide (fun wx hx => wline_any g (m2 + 1) n1 _ wx hx (by omega) (by omega))
      clear HG HOA HRL HB HSA HI
      refine (HLN.out _ ⟨_, _, _, _, _, _, HI4.out⟩).mono ?_
      rintro e w5 ⟨rfl, m5, hm5, hs5, hf5⟩
      have HF5 := hide (HF4.out.trans hf5)
      clear HI4 HLN hf5
      obtain ⟨ao5, co5, ap5, cp5, xs5, op5, hI5⟩ := hs5
      have HI5 := hide hI5
      clear hI5
      have r2 := Blk.cell HI5.out.bx (k := 2) rfl
      have f2 := Blk.fr HI5.out.bx 2
      have HI6 := hide (HI5.out.seek ((k1 : Int) + 1))
      have HF6 := hide (HF5.out.trans HI6.out.2)
      have HCL : Hid (∀ wx, WrS wx g m5 n1 ((k1 : Int) + 1) → Calls Tryz.prog 53 #[.pointer (some ⟨g, 0, none⟩)] wx (WcP g m5 n1 ((k1 : Int) + 1) wx)) := hide (fun wx hx => wclose_any g m5 n1 _ wx hx (by omega))
      go_wp2_with fail
      refine (HCL.out _ ⟨_, _, _, _, _, _, HI6.out.1⟩).mono ?_
      rintro e w7 ⟨rfl, m7, n7, hm7, hs7, hf7⟩
      have HF7 := hide (HF6.out.trans hf7)
      have HS7 : Hid (WrS w7 g m7 n7 ((k1 + 1 : Nat) : Int)) := hide (by rw [Int.natCast_add]; exact hs7)
      have HM7 := hide (show (intOf ((w7.cell? ⟨g, 2, none⟩).getD undef)).toNat = k1 + 1 by rw [HS7.out.at_]; simp [intOf])
      clear hs7 hf7 r2 f2
      go_wp2
      go_roundw
      case rel => exact ⟨m7, n7, k1 + 1, by omega, .inr (by omega), by omega, HS7, HF7⟩
      case measure => rw [HM.out, HM7.out]; omega
    · have hkt' : ¬ (k1 : Int) < (t : Int) := by omega
      go_wp2
      go_end0
      exact ⟨rfl, m1, n1, k1, hk1, hk2, hk3, HS1.out, HF1.out⟩
end Go.Proofs.YtbpkclopcoaikaaGreatDoor
