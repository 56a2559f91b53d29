/- The tape laws' names and operations. -/
import Derived.Test.YtjpmfiicbokdcaaJTapeW
import Derived.Test.YtjpmfiicbokdcaaDaW
import Derived.Test.YtjpmfiicbokdcaaDBx
import Derived.Test.YtjpmfiicbokdcaaRegE
namespace Go.Proofs.Ytjpmfiicbokdcaa
open Go.RowKit
set_option linter.unusedVariables false
set_option linter.unusedSimpArgs false
def isNm (s : List UInt8) : Prop := s = [97] ∨ s = [98] ∨ s = [99] ∨ s = [100, 46, 49]
set_option maxRecDepth 100000 in
theorem name_any (n : Int) (w : World) :
    Calls Try.prog 16 #[.int .i64 n] w fun e w' => ∃ s, e = .returned (.string (bstr s)) ∧ isNm s ∧ Below w.heap.size w w' := by
  go_enter Try.func16, Try.ntmps16
  go_wp2_with fail
  refine (mod_any n 4 _ (by decide)).mono ?_
  rintro e w' ⟨rfl, rfl⟩
  have hr := modZ_range n 4 (by decide)
  obtain ⟨r, hr0⟩ : ∃ r, r = modZ n 4 := ⟨_, rfl⟩
  rw [← hr0] at hr ⊢
  clear hr0
  have h4 : r = 0 ∨ r = 1 ∨ r = 2 ∨ r = 3 := by omega
  clear hr
  rcases h4 with rfl | rfl | rfl | rfl
  · go_wp2
    go_ret
    exact ⟨[97], rfl, .inl rfl, bl_alloc (bl_refl w) _⟩
  · go_wp2
    go_ret
    exact ⟨[98], rfl, .inr (.inl rfl), bl_alloc (bl_refl w) _⟩
  · go_wp2
    go_ret
    exact ⟨[99], rfl, .inr (.inr (.inl rfl)), bl_alloc (bl_refl w) _⟩
  · go_wp2
    go_ret
    exact ⟨[100, 46, 49], rfl, .inr (.inr (.inr rfl)), bl_alloc (bl_refl w) _⟩
theorem gbF_set {w wr : World} {g B : Nat} (h : w.grownBy wr (some g)) (hB : w.heap.size ≤ B) (k : Nat) (v : Value) : w.grownBy (wr.setCell ⟨B, k, none⟩ v) (some g) :=
  ⟨h.os, h.tape, h.output, by rw [show (wr.setCell ⟨B, k, none⟩ v).heap.size = wr.heap.size by simp]; exact h.size, fun q hq hne => by
    have h1 := h.block q hq hne
    rw [← h1]
    simp only [World.setCell, Array.getElem?_modify]
    rw [if_neg (by omega)]⟩
theorem gbF_alloc {w wr : World} {g : Nat} (h : w.grownBy wr (some g)) (o : Obj) : w.grownBy (wr.alloc o) (some g) := h.trans (World.grownBy_alloc _ _ _)
theorem tapeF_set {w : World} {g B : Nat} (h : IsTape w g) (hB : g < B) (k : Nat) (v : Value) : IsTape (w.setCell ⟨B, k, none⟩ v) g := h.grown (grownBy_setCell_at w ⟨B, k, none⟩ v) (fun j hj => by injection hj with hj; subst hj; exact hB)
theorem tapeF_alloc {w : World} {g : Nat} (h : IsTape w g) (o : Obj) : IsTape (w.alloc o) g := h.below (bl_alloc (bl_refl w) _)
/-- How the operation's function ends. -/
def setO (w : World) (B : Nat) (o : DOp) : World := (((w.setCell ⟨B, 0, none⟩ (.int .i64 o.1)).setCell ⟨B, 1, none⟩ (.string (bstr o.2.1))).setCell ⟨B, 2, none⟩ (.string (bstr o.2.2.1))).setCell ⟨B, 3, none⟩ (.string (bstr o.2.2.2))
theorem op_end {w w4 : World} {g : Nat} {a b c d : Value} (hB : Blk w4 w.heap.size [a, b, c, d] 48) (hT : IsTape w4 g) (hG : w.grownBy w4 (some g)) (hg : g < w.heap.size) (o : DOp) :
    Blk (setO w4 w.heap.size o) w.heap.size [.int .i64 o.1, .string (bstr o.2.1), .string (bstr o.2.2.1), .string (bstr o.2.2.2)] 48 ∧ IsTape (setO w4 w.heap.size o) g ∧ w.grownBy (setO w4 w.heap.size o) (some g) :=
  ⟨(((hB.set 0 _).set 1 _).set 2 _).set 3 _, tapeF_set (tapeF_set (tapeF_set (tapeF_set hT hg _ _) hg _ _) hg _ _) hg _ _, gbF_set (gbF_set (gbF_set (gbF_set hG (Nat.le_refl _) _ _) (Nat.le_refl _) _ _) (Nat.le_refl _) _ _) (Nat.le_refl _) _ _⟩
/-! Drawn regions of the operation's function: the tape in g turns, the operation's box bx has some kind. -/
def OG (w4 : World) (g : Nat) (s : List UInt8) (_ : Nat → Bool) (w : World) : Prop := w4.grownBy w (some g) ∧ IsTape w g ∧ ∃ kx : Int, Blk w w4.heap.size [.int .i64 kx, .string (bstr s), .string ⟨#[]⟩, .string ⟨#[]⟩] 48
def OE (g bx : Nat) : Nat → World → World → Prop := fun _ w w' => w.heap.size ≤ w'.heap.size ∧ ∀ q, q < w.heap.size → q ≠ g → q ≠ bx → w'.heap[q]? = w.heap[q]?
theorem OG.grown {w4 w w' : World} {g : Nat} {s : List UInt8} {L L' : Nat → Bool} (h : OG w4 g s L w) (hg : w.grownBy w' (some g)) (ht : IsTape w' g) (hlt : g < w4.heap.size) : OG w4 g s L' w' := by
  obtain ⟨h1, h2, kx, h3⟩ := h
  exact ⟨h1.trans hg, ht, kx, h3.grown hg (fun e => by injection e; omega)⟩
theorem OE.grown {g bx : Nat} {w w' : World} (hg : w.grownBy w' (some g)) (i : Nat) : OE g bx i w w' := ⟨hg.size, fun q hq h1 _ => hg.block q hq (fun e => h1 (by injection e))⟩
theorem OG.below {w4 w w' : World} {g : Nat} {s : List UInt8} {L L' : Nat → Bool} (h : OG w4 g s L w) (hb : Below w.heap.size w w') (hlt : g < w4.heap.size) : OG w4 g s L' w' := h.grown (World.grownBy.but (below_grow0 hb) (some g)) (h.2.1.below hb) hlt
theorem OE.below {g bx : Nat} {w w' : World} (hb : Below w.heap.size w w') (i : Nat) : OE g bx i w w' := OE.grown (World.grownBy.but (below_grow0 hb) (some g)) i
theorem OG.store {w4 w : World} {g : Nat} {s : List UInt8} {L L' : Nat → Bool} (h : OG w4 g s L w) (kx : Int) (hlt : g < w4.heap.size) : OG w4 g s L' (w.setCell ⟨w4.heap.size, 0, none⟩ (.int .i64 kx)) := by
  obtain ⟨h1, h2, _, h3⟩ := h
  exact ⟨gbF_set h1 (Nat.le_refl _) _ _, tapeF_set h2 hlt _ _, kx, h3.set 0 _⟩
theorem OE.store {g bx : Nat} {w : World} (k : Nat) (v : Value) (i : Nat) : OE g bx i w (w.setCell ⟨bx, k, none⟩ v) := ⟨by simp, fun q hq _ h2 => by
  simp only [World.setCell, Array.getElem?_modify]
  rw [if_neg (fun e => h2 e.symm)]⟩
def POs (base g n : Nat) (cs : List Value) : Value → World → Prop := fun v w => ∃ gb, v = .slice (some ⟨gb, 0, none⟩) n n ∧ base < gb ∧ gb ≠ g ∧ Blk w gb cs 9
def POi (n : Nat) : Value → World → Prop := fun v _ => ∃ r : Nat, v = .int .i64 (r : Int) ∧ r < n
def POp (base g n : Nat) (cs : List Value) : Value → World → Prop := fun v w => ∃ gb r, v = .pointer (some ⟨gb, r, none⟩) ∧ r < n ∧ base < gb ∧ gb ≠ g ∧ Blk w gb cs 9
def POt : Value → World → Prop := fun v _ => ∃ s : List UInt8, v = .string (bstr s) ∧ s.length ≤ 5
theorem blk_OE {g bx gb i : Nat} {cs : List Value} {T : TypeId} {w w' : World} (h : Blk w gb cs T) (hE : OE g bx i w w') (h1 : gb ≠ g) (h2 : gb ≠ bx) : Blk w' gb cs T := (hE.2 gb h.lt h1 h2).trans h
theorem stabOs {g bx n : Nat} {cs : List Value} (i : Nat) : StabE (OE g bx) i (.p (POs bx g n cs)) := fun _ _ u w w' hE ⟨gb, h1, h2, h3, h4⟩ => ⟨gb, h1, h2, h3, blk_OE h4 hE h3 (by omega)⟩
theorem stabOp {g bx n : Nat} {cs : List Value} (i : Nat) : StabE (OE g bx) i (.p (POp bx g n cs)) := fun _ _ u w w' hE ⟨gb, r, h0, h1, h2, h3, h4⟩ => ⟨gb, r, h0, h1, h2, h3, blk_OE h4 hE h3 (by omega)⟩
def tbO5 : List Value := [.string (bstr [120]), .string (bstr [121, 122]), .string (bstr []), .string (bstr [0, 113]), .string (bstr [49, 50, 51, 52, 53])]
def tbO3 : List Value := [.string (bstr []), .string (bstr [97]), .string (bstr [47])]
theorem tbO5_at {w : World} {gb r : Nat} (h : Blk w gb tbO5 9) (hr : r < 5) : ∃ s : List UInt8, w.cell? ⟨gb, r, none⟩ = some (.string (bstr s)) ∧ s.length ≤ 5 := by
  match r, hr with
  | 0, _ => exact ⟨_, h.cell rfl, by decide⟩
  | 1, _ => exact ⟨_, h.cell rfl, by decide⟩
  | 2, _ => exact ⟨_, h.cell rfl, by decide⟩
  | 3, _ => exact ⟨_, h.cell rfl, by decide⟩
  | 4, _ => exact ⟨_, h.cell rfl, by decide⟩
theorem tbO3_at {w : World} {gb r : Nat} (h : Blk w gb tbO3 9) (hr : r < 3) : ∃ s : List UInt8, w.cell? ⟨gb, r, none⟩ = some (.string (bstr s)) ∧ s.length ≤ 5 := by
  match r, hr with
  | 0, _ => exact ⟨_, h.cell rfl, by decide⟩
  | 1, _ => exact ⟨_, h.cell rfl, by decide⟩
  | 2, _ => exact ⟨_, h.cell rfl, by decide⟩
set_option maxHeartbeats 4000000 in
set_option maxRecDepth 100000 in
theorem op_any (g : Nat) (w : World) (ht : IsTape w g) :
    Calls Try.prog 28 #[.pointer (some ⟨g, 0, none⟩)] w fun e w' => ∃ o : DOp, e = .returned (oV o) ∧ o.2.2.2.length ≤ 5 ∧ IsTape w' g ∧ w.grownBy w' (some g) := by
  have hgl := ht.lt
  obtain ⟨W1, hW1⟩ : ∃ W1, W1 = w.alloc (.cells [.int .i64 0, .string ⟨#[]⟩, .string ⟨#[]⟩, .string ⟨#[]⟩].toArray 48) := ⟨_, rfl⟩
  have B2 := hide (show Blk W1 w.heap.size [.int .i64 0, .string ⟨#[]⟩, .string ⟨#[]⟩, .string ⟨#[]⟩] 48 by rw [hW1]; exact Blk.new w _ _)
  have HT1 := hide (show IsTape W1 g by rw [hW1]; exact ht.below (bl_alloc (bl_refl w) _))
  have HG1 := hide (show w.grownBy W1 (some g) by rw [hW1]; exact World.grownBy_alloc _ _ _)
  have HW1 := hide hW1.symm
  clear hW1 ht
  go_enter Try.func28, Try.ntmps28
  go_wp2_with fail
  rw [HW1.out]
  clear HW1
  have hne : ¬ g = w.heap.size := by omega
  refine (deal_any g 14 W1 HT1.out (by decide) (by decide)).mono ?_
  rintro e w2 ⟨k, rfl, hk0, hk1, ht2, hg2⟩
  have B3 := hide (B2.out.grown hg2 (by simpa using hne))
  have HT2 := hide ht2
  have HG2 := hide (HG1.out.trans hg2)
  clear ht2 hg2 hk0 hk1 B2 HT1 HG1
  go_wp2_with fail
  refine (deal_any g 4 w2 HT2.out (by decide) (by decide)).mono ?_
  rintro e w3 ⟨k1, rfl, hk0, hk1, ht2, hg2⟩
  have B4 := hide (B3.out.grown hg2 (by simpa using hne))
  have HT3 := hide ht2
  have HG3 := hide (HG2.out.trans hg2)
  clear ht2 hg2 hk0 hk1 B3 HT2 HG2
  go_wp2_with fail
  refine (name_any _ w3).mono ?_
  rintro e w4 ⟨s, rfl, hs, hb4⟩
  have B5 := hide (B4.out.below hb4)
  have HT4 := hide (HT3.out.below hb4)
  have HG4 := hide (gb_below HG3.out hb4)
  have HS := hide hs
  clear hs hb4 B4 HT3 HG3
  have hg4 : g < w4.heap.size := HT4.out.lt
  have y0 : w4.cell? ⟨w.heap.size, 0, none⟩ = some _ := B5.out.cell rfl
  have y1 : w4.cell? ⟨w.heap.size, 1, none⟩ = some _ := B5.out.cell rfl
  have y2 : w4.cell? ⟨w.heap.size, 2, none⟩ = some _ := B5.out.cell rfl
  have y3 : w4.cell? ⟨w.heap.size, 3, none⟩ = some _ := B5.out.cell rfl
  have l0 := B5.out.lt
  have f0 := B5.out.fr
  by_cases k3 : k < 3
  · go_wp2
    obtain ⟨hE1, hE2, hE3⟩ := op_end B5.out HT4.out HG4.out hgl (1, s, [], [])
    refine bodyPost_ret (results_cell_row Try.results28 _ _ w.heap.size 48 _ (0, 0) _ rfl (hE1.alloc _) Try.underlying48 rfl (by kernel_rfl)) rfl ?_
    exact ⟨(1, s, [], []), rfl, by simp, tapeF_alloc hE2 _, gbF_alloc hE3 _⟩
  by_cases k6 : k < 6
  · have hstart : OG w4 g s (fun _ => false) (w4.alloc (.cells [.int .i64 0, .string (bstr s), .string ⟨#[]⟩, .string ⟨#[]⟩].toArray 48)).drew := ⟨(World.grownBy_alloc _ _ _).trans ⟨rfl, rfl, rfl, Nat.le_refl _, fun _ _ _ => rfl⟩, HT4.out.below (bl_drew (bl_alloc (bl_refl w4) _)), 0, (Blk.new w4 _ _).drew⟩
    go_wp2_with fail
    refine wp_region_E 7 (OG w4 g s) (OE g w4.heap.size) (by kernel_rfl) (by kernel_rfl) hstart (fun Q HQ => ?_)
    simp only [List.take_succ_cons, List.take_zero, List.map_cons, List.map_nil]
    refine wpE_p (R := POs w4.heap.size g 5 tbO5) rfl (stabOs _) ?_ ?_
    focus
      intro L ev wx hG hL hM hx
      (try simp [Op.operands, Call.operands, opndS, Slot.holds] at hx)
      have hsz := hG.2.2.choose_spec.lt
      have hlt := hG.2.1.lt
      go_simp
      exact ⟨hG.below (bl_alloc (bl_refl wx) _) hg4, OE.below (bl_alloc (bl_refl wx) _) _, wx.heap.size, rfl, hsz, by omega, Blk.new wx _ _⟩
    dsimp only [setS, List.set]
    apply wpE_c rfl
    focus
      intro L ev wx hG hL hM hx
      (try simp [Op.operands, Call.operands, opndS, Slot.holds] at hx)
      go_simp
      exact ⟨hG, OE.below (bl_refl wx) _, rfl⟩
    dsimp only [setS, List.set]
    refine wpE_p (R := POi 5) rfl (fun _ _ _ _ _ _ h => h) ?_ ?_
    focus
      intro L ev wx hG hL hM hx
      (try simp [Op.operands, Call.operands, opndS, Slot.holds] at hx)
      go_simp
      refine (deal_any g 5 wx hG.2.1 (by decide) (by decide)).mono ?_
      rintro e w' ⟨r, rfl, hr0, hr1, ht, hg⟩
      obtain ⟨r, rfl⟩ := Int.eq_ofNat_of_zero_le hr0
      exact ⟨_, rfl, hG.grown hg ht hg4, OE.grown hg _, r, rfl, by omega⟩
    dsimp only [setS, List.set]
    refine wpE_p (R := POp w4.heap.size g 5 tbO5) rfl (stabOp _) ?_ ?_
    focus
      intro L ev wx hG hL hM hx
      (try simp [Op.operands, Call.operands, opndS, Slot.holds] at hx)
      obtain ⟨⟨gb, hv27, hgb, hgg, hcb⟩, ⟨r, hv29, hr5⟩⟩ := hx
      have hr5' : (r : Int) < 5 := by omega
      go_simp
      exact ⟨hG, OE.below (bl_refl wx) _, gb, r, rfl, hr5, hgb, hgg, hcb⟩
    dsimp only [setS, List.set]
    refine wpE_p (R := POt) rfl (fun _ _ _ _ _ _ h => h) ?_ ?_
    focus
      intro L ev wx hG hL hM hx
      (try simp [Op.operands, Call.operands, opndS, Slot.holds] at hx)
      obtain ⟨gb, r, hv30, hr5, hgb, hgg, hcb⟩ := hx
      obtain ⟨s', hc, hs'⟩ := tbO5_at hcb hr5
      go_simp
      exact ⟨hG, OE.below (bl_refl wx) _, s', rfl, hs'⟩
    dsimp only [setS, List.set]
    apply wpE_c rfl
    focus
      intro L ev wx hG hL hM hx
      (try simp [Op.operands, Call.operands, opndS, Slot.holds] at hx)
      go_simp
      exact ⟨hG, OE.below (bl_refl wx) _, rfl⟩
    dsimp only [setS, List.set]
    apply wpE_c rfl
    focus
      intro L ev wx hG hL hM hx
      (try simp [Op.operands, Call.operands, opndS, Slot.holds] at hx)
      obtain ⟨hG1, hG2, kx, hB⟩ := hG
      have z0 : wx.cell? ⟨w4.heap.size, 0, none⟩ = some _ := hB.cell rfl
      have zl := hB.lt
      have zf := hB.fr

      go_simp
      exact ⟨OG.store (L := L) ⟨hG1, hG2, kx, hB⟩ _ hg4, OE.store _ _ _, rfl⟩
    dsimp only [setS, List.set]
    refine wpE_nil (HQ _ fun w6 hG6 => ?_)
    simp only [closeS, List.drop_succ_cons, List.drop_zero]
    rintro v27 - v29 - v30 - v31 ⟨s', rfl, hs'⟩
    obtain ⟨hg6, ht6, kx, hb6⟩ := hG6
    have C0 := hide (B5.out.grown hg6 (by simpa using hne))
    have C1 := hide hb6
    have HT6 := hide ht6
    have HG6 := hide (HG4.out.trans hg6)
    clear y0 y1 y2 y3 l0 f0 hg6 ht6 hb6 HQ hstart
    have y0 : w6.cell? ⟨w.heap.size, 0, none⟩ = some _ := C0.out.cell rfl
    have y1 : w6.cell? ⟨w.heap.size, 1, none⟩ = some _ := C0.out.cell rfl
    have y2 : w6.cell? ⟨w.heap.size, 2, none⟩ = some _ := C0.out.cell rfl
    have y3 : w6.cell? ⟨w.heap.size, 3, none⟩ = some _ := C0.out.cell rfl
    have l0 := C0.out.lt
    have f0 := C0.out.fr
    have z0 : w6.cell? ⟨w4.heap.size, 0, none⟩ = some _ := C1.out.cell rfl
    have z1 : w6.cell? ⟨w4.heap.size, 1, none⟩ = some _ := C1.out.cell rfl
    have z2 : w6.cell? ⟨w4.heap.size, 2, none⟩ = some _ := C1.out.cell rfl
    have z3 : w6.cell? ⟨w4.heap.size, 3, none⟩ = some _ := C1.out.cell rfl
    have zl := C1.out.lt
    have zf := C1.out.fr
    have hbb : w.heap.size < w4.heap.size := B5.out.lt
    have hbn : ¬ w.heap.size = w4.heap.size := by omega
    have hbn' : ¬ w4.heap.size = w.heap.size := by omega
    go_wp2
    obtain ⟨hE1, hE2, hE3⟩ := op_end (C0.out.setne hbn 3 (.string (bstr s'))) (tapeF_set HT6.out hg4 3 (.string (bstr s'))) (gbF_set HG6.out (Nat.le_of_lt hbb) 3 (.string (bstr s'))) hgl (kx, s, [], s')
    refine bodyPost_ret (results_cell_row Try.results28 _ _ w.heap.size 48 _ (0, 0) _ rfl hE1 Try.underlying48 rfl (by kernel_rfl)) rfl ?_
    exact ⟨(kx, s, [], s'), rfl, by simp [hs'], hE2, hE3⟩
  by_cases k8 : k < 8
  · go_wp2
    obtain ⟨hE1, hE2, hE3⟩ := op_end B5.out HT4.out HG4.out hgl (3, s, [], [])
    refine bodyPost_ret (results_cell_row Try.results28 _ _ w.heap.size 48 _ (0, 0) _ rfl (hE1.alloc _) Try.underlying48 rfl (by kernel_rfl)) rfl ?_
    exact ⟨(3, s, [], []), rfl, by simp, tapeF_alloc hE2 _, gbF_alloc hE3 _⟩
  by_cases k10 : k < 10
  · go_wp2_with fail
    refine (deal_any g 4 _ (tapeF_alloc HT4.out _) (by decide) (by decide)).mono ?_
    rintro e w5 ⟨kx, rfl, -, -, ht2, hg2⟩
    have D0 := hide ((B5.out.alloc _).grown hg2 (by simpa using hne))
    have D1 := hide (Blk.grown (Blk.new w4 [.int .i64 0, .string (bstr s), .string ⟨#[]⟩, .string ⟨#[]⟩] 48) hg2 (by simp; omega))
    have DT := hide ht2
    have DG := hide (HG4.out.trans ((World.grownBy_alloc _ _ _).trans hg2))
    clear ht2 hg2 y0 y1 y2 y3 l0 f0
    go_wp2_with fail
    refine (name_any _ w5).mono ?_
    rintro e w6 ⟨s', rfl, hs', hb6⟩
    have C0 := hide (D0.out.below hb6)
    have C1 := hide (D1.out.below hb6)
    have HT6 := hide (DT.out.below hb6)
    have HG6 := hide (gb_below DG.out hb6)
    clear hb6 D0 D1 DT DG hs'
    have y0 : w6.cell? ⟨w.heap.size, 0, none⟩ = some _ := C0.out.cell rfl
    have y1 : w6.cell? ⟨w.heap.size, 1, none⟩ = some _ := C0.out.cell rfl
    have y2 : w6.cell? ⟨w.heap.size, 2, none⟩ = some _ := C0.out.cell rfl
    have y3 : w6.cell? ⟨w.heap.size, 3, none⟩ = some _ := C0.out.cell rfl
    have l0 := C0.out.lt
    have f0 := C0.out.fr
    have z0 : w6.cell? ⟨w4.heap.size, 0, none⟩ = some _ := C1.out.cell rfl
    have z1 : w6.cell? ⟨w4.heap.size, 1, none⟩ = some _ := C1.out.cell rfl
    have z2 : w6.cell? ⟨w4.heap.size, 2, none⟩ = some _ := C1.out.cell rfl
    have z3 : w6.cell? ⟨w4.heap.size, 3, none⟩ = some _ := C1.out.cell rfl
    have zl := C1.out.lt
    have zf := C1.out.fr
    have hbb : w.heap.size < w4.heap.size := B5.out.lt
    have hbn : ¬ w.heap.size = w4.heap.size := by omega
    have hbn' : ¬ w4.heap.size = w.heap.size := by omega
    go_wp2
    obtain ⟨hE1, hE2, hE3⟩ := op_end ((C0.out.setne hbn 0 (.int .i64 4)).setne hbn 2 (.string (bstr s'))) (tapeF_set (tapeF_set HT6.out hg4 0 (.int .i64 4)) hg4 2 (.string (bstr s'))) (gbF_set (gbF_set HG6.out (Nat.le_of_lt hbb) 0 (.int .i64 4)) (Nat.le_of_lt hbb) 2 (.string (bstr s'))) hgl (4, s, s', [])
    refine bodyPost_ret (results_cell_row Try.results28 _ _ w.heap.size 48 _ (0, 0) _ rfl hE1 Try.underlying48 rfl (by kernel_rfl)) rfl ?_
    exact ⟨(4, s, s', []), rfl, by simp, hE2, hE3⟩
  by_cases k10' : k = 10
  · go_wp2
    obtain ⟨hE1, hE2, hE3⟩ := op_end B5.out HT4.out HG4.out hgl (5, s, [], [])
    refine bodyPost_ret (results_cell_row Try.results28 _ _ w.heap.size 48 _ (0, 0) _ rfl (hE1.alloc _) Try.underlying48 rfl (by kernel_rfl)) rfl ?_
    exact ⟨(5, s, [], []), rfl, by simp, tapeF_alloc hE2 _, gbF_alloc hE3 _⟩
  by_cases k13 : k < 13
  · go_wp2
    obtain ⟨hE1, hE2, hE3⟩ := op_end B5.out HT4.out HG4.out hgl (6, [], [], [])
    refine bodyPost_ret (results_cell_row Try.results28 _ _ w.heap.size 48 _ (0, 0) _ rfl (hE1.alloc _) Try.underlying48 rfl (by kernel_rfl)) rfl ?_
    exact ⟨(6, [], [], []), rfl, by simp, tapeF_alloc hE2 _, gbF_alloc hE3 _⟩
  have hstart : OG w4 g s (fun _ => false) (w4.alloc (.cells [.int .i64 0, .string (bstr s), .string ⟨#[]⟩, .string ⟨#[]⟩].toArray 48)).drew := ⟨(World.grownBy_alloc _ _ _).trans ⟨rfl, rfl, rfl, Nat.le_refl _, fun _ _ _ => rfl⟩, HT4.out.below (bl_drew (bl_alloc (bl_refl w4) _)), 0, (Blk.new w4 _ _).drew⟩
  have k13' : 13 ≤ k := by omega
  have k10b : (k == 10) = false := by rw [beq_eq_false_iff_ne]; exact k10'
  go_wp2_with fail
  · refine wp_region_E 9 (OG w4 g s) (OE g w4.heap.size) (by kernel_rfl) (by kernel_rfl) hstart (fun Q HQ => ?_)
    simp only [List.take_succ_cons, List.take_zero, List.map_cons, List.map_nil]
    apply wpE_c rfl
    focus
      intro L ev wx hG hL hM hx
      (try simp [Op.operands, Call.operands, opndS, Slot.holds] at hx)
      go_simp
      exact ⟨hG, OE.below (bl_refl wx) _, rfl⟩
    dsimp only [setS, List.set]
    refine wpE_p (R := POi 8) rfl (fun _ _ _ _ _ _ h => h) ?_ ?_
    focus
      intro L ev wx hG hL hM hx
      (try simp [Op.operands, Call.operands, opndS, Slot.holds] at hx)
      go_simp
      refine (deal_any g 8 wx hG.2.1 (by decide) (by decide)).mono ?_
      rintro e w' ⟨r, rfl, hr0, hr1, ht, hg⟩
      obtain ⟨r, rfl⟩ := Int.eq_ofNat_of_zero_le hr0
      exact ⟨_, rfl, hG.grown hg ht hg4, OE.grown hg _, r, rfl, by omega⟩
    dsimp only [setS, List.set]
    refine wpE_p (R := POs w4.heap.size g 3 tbO3) rfl (stabOs _) ?_ ?_
    focus
      intro L ev wx hG hL hM hx
      (try simp [Op.operands, Call.operands, opndS, Slot.holds] at hx)
      have hsz := hG.2.2.choose_spec.lt
      have hlt := hG.2.1.lt
      go_simp
      exact ⟨hG.below (bl_alloc (bl_refl wx) _) hg4, OE.below (bl_alloc (bl_refl wx) _) _, wx.heap.size, rfl, hsz, by omega, Blk.new wx _ _⟩
    dsimp only [setS, List.set]
    apply wpE_c rfl
    focus
      intro L ev wx hG hL hM hx
      (try simp [Op.operands, Call.operands, opndS, Slot.holds] at hx)
      go_simp
      exact ⟨hG, OE.below (bl_refl wx) _, rfl⟩
    dsimp only [setS, List.set]
    refine wpE_p (R := POi 3) rfl (fun _ _ _ _ _ _ h => h) ?_ ?_
    focus
      intro L ev wx hG hL hM hx
      (try simp [Op.operands, Call.operands, opndS, Slot.holds] at hx)
      go_simp
      refine (deal_any g 3 wx hG.2.1 (by decide) (by decide)).mono ?_
      rintro e w' ⟨r, rfl, hr0, hr1, ht, hg⟩
      obtain ⟨r, rfl⟩ := Int.eq_ofNat_of_zero_le hr0
      exact ⟨_, rfl, hG.grown hg ht hg4, OE.grown hg _, r, rfl, by omega⟩
    dsimp only [setS, List.set]
    refine wpE_p (R := POp w4.heap.size g 3 tbO3) rfl (stabOp _) ?_ ?_
    focus
      intro L ev wx hG hL hM hx
      (try simp [Op.operands, Call.operands, opndS, Slot.holds] at hx)
      obtain ⟨⟨gb, hv27, hgb, hgg, hcb⟩, ⟨r, hv29, hr5⟩⟩ := hx
      have hr5' : (r : Int) < 3 := by omega
      go_simp
      exact ⟨hG, OE.below (bl_refl wx) _, gb, r, rfl, hr5, hgb, hgg, hcb⟩
    dsimp only [setS, List.set]
    refine wpE_p (R := POt) rfl (fun _ _ _ _ _ _ h => h) ?_ ?_
    focus
      intro L ev wx hG hL hM hx
      (try simp [Op.operands, Call.operands, opndS, Slot.holds] at hx)
      obtain ⟨gb, r, hv30, hr5, hgb, hgg, hcb⟩ := hx
      obtain ⟨s', hc, hs'⟩ := tbO3_at hcb hr5
      go_simp
      exact ⟨hG, OE.below (bl_refl wx) _, s', rfl, hs'⟩
    dsimp only [setS, List.set]
    apply wpE_c rfl
    focus
      intro L ev wx hG hL hM hx
      (try simp [Op.operands, Call.operands, opndS, Slot.holds] at hx)
      go_simp
      exact ⟨hG, OE.below (bl_refl wx) _, rfl⟩
    dsimp only [setS, List.set]
    apply wpE_c rfl
    focus
      intro L ev wx hG hL hM hx
      (try simp [Op.operands, Call.operands, opndS, Slot.holds] at hx)
      obtain ⟨hG1, hG2, kx, hB⟩ := hG
      have z0 : wx.cell? ⟨w4.heap.size, 0, none⟩ = some _ := hB.cell rfl
      have zl := hB.lt
      have zf := hB.fr
      obtain ⟨hv18, ⟨r, hv12, hr8⟩⟩ := hx
      go_simp
      exact ⟨OG.store (L := L) ⟨hG1, hG2, kx, hB⟩ _ hg4, OE.store _ _ _, rfl⟩
    dsimp only [setS, List.set]
    refine wpE_nil (HQ _ fun w6 hG6 => ?_)
    simp only [closeS, List.drop_succ_cons, List.drop_zero]
    rintro v12 - v13 - v15 - v16 - v17 ⟨s', rfl, hs'⟩
    obtain ⟨hg6, ht6, kx, hb6⟩ := hG6
    have C0 := hide (B5.out.grown hg6 (by simpa using hne))
    have C1 := hide hb6
    have HT6 := hide ht6
    have HG6 := hide (HG4.out.trans hg6)
    clear y0 y1 y2 y3 l0 f0 hg6 ht6 hb6 HQ hstart
    have y0 : w6.cell? ⟨w.heap.size, 0, none⟩ = some _ := C0.out.cell rfl
    have y1 : w6.cell? ⟨w.heap.size, 1, none⟩ = some _ := C0.out.cell rfl
    have y2 : w6.cell? ⟨w.heap.size, 2, none⟩ = some _ := C0.out.cell rfl
    have y3 : w6.cell? ⟨w.heap.size, 3, none⟩ = some _ := C0.out.cell rfl
    have l0 := C0.out.lt
    have f0 := C0.out.fr
    have z0 : w6.cell? ⟨w4.heap.size, 0, none⟩ = some _ := C1.out.cell rfl
    have z1 : w6.cell? ⟨w4.heap.size, 1, none⟩ = some _ := C1.out.cell rfl
    have z2 : w6.cell? ⟨w4.heap.size, 2, none⟩ = some _ := C1.out.cell rfl
    have z3 : w6.cell? ⟨w4.heap.size, 3, none⟩ = some _ := C1.out.cell rfl
    have zl := C1.out.lt
    have zf := C1.out.fr
    have hbb : w.heap.size < w4.heap.size := B5.out.lt
    have hbn : ¬ w.heap.size = w4.heap.size := by omega
    have hbn' : ¬ w4.heap.size = w.heap.size := by omega
    go_wp2
    obtain ⟨hE1, hE2, hE3⟩ := op_end (C0.out.setne hbn 2 (.string (bstr s'))) (tapeF_set HT6.out hg4 2 (.string (bstr s'))) (gbF_set HG6.out (Nat.le_of_lt hbb) 2 (.string (bstr s'))) hgl (kx, s, s', [])
    refine bodyPost_ret (results_cell_row Try.results28 _ _ w.heap.size 48 _ (0, 0) _ rfl hE1 Try.underlying48 rfl (by kernel_rfl)) rfl ?_
    exact ⟨(kx, s, s', []), rfl, by simp, hE2, hE3⟩
end Go.Proofs.Ytjpmfiicbokdcaa
