/- The walk of the program's directory. -/
import Derived.Test.YtjpmfiicbokdcaaDwW
namespace Go.Proofs.Ytjpmfiicbokdcaa
open Go.RowKit
set_option linter.unusedVariables false
set_option linter.unusedSimpArgs false
/-- Which of m inodes some entries have. -/
def knL (L : List Ent) (m : Nat) : List Value := (List.range m).map fun (i : Nat) => Value.bool (L.any fun e => e.2 == (i : Int))
theorem knL_len (L : List Ent) (m : Nat) : (knL L m).length = m := by simp [knL]
theorem knL_get {L : List Ent} {m i : Nat} (h : i < m) : (knL L m)[i]? = some (.bool (L.any fun e => e.2 == (i : Int))) := by simp [knL, h]
theorem knL_set {L : List Ent} {m j : Nat} {e : Ent} (hj : j < m) (he : e.2 = (j : Int)) : (knL L m).set j (.bool true) = knL (L ++ [e]) m := by
  apply List.ext_getElem?
  intro i
  by_cases hi : i < m
  · rw [List.getElem?_set, knL_get hi, knL_get hi, knL_len]
    by_cases hji : j = i
    · subst hji
      rw [if_pos rfl, if_pos hj]
      simp [he]
    · rw [if_neg hji]
      have : (e.2 == (i : Int)) = false := by rw [beq_eq_false_iff_ne, he]; omega
      simp [this]
  · rw [List.getElem?_eq_none (by rw [List.length_set, knL_len]; omega), List.getElem?_eq_none (by rw [knL_len]; omega)]
theorem knL_nil (m : Nat) : knL [] m = List.replicate m (.bool false) := by
  apply List.ext_getElem?
  intro i
  by_cases hi : i < m
  · rw [knL_get hi, List.getElem?_replicate, if_pos hi]; rfl
  · rw [List.getElem?_eq_none (by rw [knL_len]; omega), List.getElem?_eq_none (by simp; omega)]
theorem gr_setG {w wr : World} {row : Option Nat} (h : w.grownBy wr row) {g : Nat} (hg : w.heap.size ≤ g) (k : Nat) (v : Value) : w.grownBy (wr.setCell ⟨g, k, none⟩ v) row :=
  ⟨h.os, h.tape, h.output, by simpa using h.size, fun q hq hr => (Go.RowKit.Below.heap_setCell wr ⟨g, k, none⟩ v q (by simp only []; omega)).trans (h.block q hq hr)⟩
theorem gr_setR {w wr : World} {g : Nat} (h : w.grownBy wr (some g)) (k : Nat) (v : Value) : w.grownBy (wr.setCell ⟨g, k, none⟩ v) (some g) :=
  ⟨h.os, h.tape, h.output, by simpa using h.size, fun q hq hr => (Go.RowKit.Below.heap_setCell wr ⟨g, k, none⟩ v q (by simp only []; intro e; exact hr (by rw [e]))).trans (h.block q hq hr)⟩
theorem gr_below {w wr wx : World} {row : Option Nat} (h : w.grownBy wr row) (hb : Below wr.heap.size wr wx) : w.grownBy wx row := h.trans (grown_of_below row hb)
theorem info_bool : (Try.prog.info? 4).map (fun i => (i.zero, i.size, i.bytes)) = some (some (.bool false), 1, 1) := by kernel_rfl
/-- A store that may come early. -/
def StG (w0 : World) (go j : Nat) (v : Value) (i : Nat) (L : Nat → Bool) (w' : World) : Prop := ∃ wy, Below w0.heap.size w0 wy ∧ w' = (if L i = true then wy.setCell ⟨go, j, none⟩ v else wy)
theorem StG.blk {w0 : World} {go j i : Nat} {v : Value} {L : Nat → Bool} {w' : World} (h : StG w0 go j v i L w') {g : Nat} {cs : List Value} {t : TypeId} (hb : Blk w0 g cs t) (hg : g ≠ go) : Blk w' g cs t := by
  obtain ⟨wy, h1, rfl⟩ := h
  split
  · exact (hb.below h1).setne hg _ _
  · exact hb.below h1
theorem StG.blk0 {w0 : World} {go j i : Nat} {v : Value} {L : Nat → Bool} {w' : World} (h : StG w0 go j v i L w') (hL : L i = false) {g : Nat} {cs : List Value} {t : TypeId} (hb : Blk w0 g cs t) : Blk w' g cs t := by
  obtain ⟨wy, h1, rfl⟩ := h
  rw [hL]
  exact hb.below h1
theorem StG.store {w0 : World} {go j i : Nat} {v : Value} {L : Nat → Bool} {w' : World} (h : StG w0 go j v i L w') (hL : L i = false) : StG w0 go j v i (upL L i) (w'.setCell ⟨go, j, none⟩ v) := by
  obtain ⟨wy, h1, rfl⟩ := h
  refine ⟨wy, h1, ?_⟩
  rw [hL]
  simp [upL]
/-- What directory answers. -/
def DirP (w : World) (gk m : Nat) (T : TypeId) (L0 l : List Ent) (e : Ending) (w' : World) : Prop := e = .returned (.bool (dirM m l)) ∧ w.grownBy w' (some gk) ∧ (dirM m l = true → Blk w' gk (knL (L0 ++ l) m) T)
theorem DirP.no {w w' : World} {gk m : Nat} {T : TypeId} {L0 l : List Ent} {e : Ending} (hd : dirM m l = false) (he : e = .returned (.bool false)) (hg : w.grownBy w' (some gk)) : DirP w gk m T L0 l e w' := ⟨by rw [hd]; exact he, hg, fun h => by rw [hd] at h; cases h⟩
set_option maxHeartbeats 16000000 in
set_option maxRecDepth 100000 in
theorem directory_any (a : Option Addr) (n c m : Nat) (l L0 : List Ent) (gk : Nat) (w : World) (hn : n ≤ 1000000) (hm : m ≤ 1000000) (hnc : n ≤ c) (hcm : c ≤ maxLen) (hk : Blk w gk (knL L0 m) 4) (hr : ∀ wx, w.grownBy wx (some gk) → RE wx a n l) :
    Calls Try.prog 38 #[.slice a n c, .slice (some ⟨gk, 0, none⟩) m m] w (DirP w gk m 4 L0 l) := by
  have HRE := hide hr
  have HN := hide (show n = l.length from (hr w ⟨rfl, rfl, rfl, Nat.le_refl _, fun _ _ _ => rfl⟩).1)
  unfold maxLen at hcm
  obtain ⟨i0, hi0, hz0, hz1, hz2⟩ := info_parts info_bool
  have hmk : ∀ (W : World), (Instr.makeSlice 68 (.int .i64 (m : Int)) (.int .i64 (m : Int))).run Try.prog W = .ok (.slice (some ⟨W.heap.size, 0, none⟩) m m) (W.alloc (.cells (List.replicate m (.bool false)).toArray 4)) := by
    intro W
    rw [run_make_nc (P := Try.prog) 68 4 i0 _ Try.underlying68 hi0 hz0 .i64 .i64 m m (Nat.le_refl _) (by rw [hz2]; omega) (by omega) W, hz1, Nat.mul_one]
    have e : madeCells (Value.bool false).cells m = (List.replicate m (.bool false)).toArray := made_arr (.bool false) m
    rw [e]
  obtain ⟨W0, hW0⟩ : ∃ W0, W0 = w.alloc (.cells (List.replicate m (.bool false)).toArray 4) := ⟨_, rfl⟩
  have B0 := hide (show Blk W0 w.heap.size (knL (l.take 0) m) 4 by rw [hW0, List.take_zero, knL_nil]; exact Blk.new w _ _)
  have BK := hide (show Blk W0 gk (knL (L0 ++ l.take 0) m) 4 by rw [hW0, List.take_zero, List.append_nil]; exact hk.alloc _)
  have HB0 := hide (show w.grownBy W0 (some gk) by rw [hW0]; exact grown_of_below _ (bl_alloc (bl_refl w) _))
  have HGK := hide (show gk < w.heap.size from hk.lt)
  have HW0 := hide hW0
  obtain ⟨v, hv⟩ : ∃ v, v = dirM m l := ⟨_, rfl⟩
  clear hr hk hW0 hi0 hz0 hz1 hz2
  go_enter Try.func38, Try.ntmps38
  go_wp2_with fail
  have HW := HW0.out
  simp only [List.toArray_replicate] at HW
  rw [← HW]
  clear HW HW0
  go_loopw [13] (fun kv wr => ∃ k : Nat, kv = .int .i64 (k : Int) ∧ k ≤ n ∧ Hid (∀ j e, j < k → l[j]? = some e → okE m l j e) ∧ Hid (Blk wr w.heap.size (knL (l.take k) m) 4) ∧ Hid (Blk wr gk (knL (L0 ++ l.take k) m) 4) ∧ Hid (w.grownBy wr (some gk))) (fun kv _ => n - (intOf kv).toNat)
  case atStart => exact ⟨0, rfl, by omega, hide (fun j e h => absurd h (by omega)), B0, BK, HB0⟩
  case round =>
    clear B0 BK HB0
    obtain ⟨k, rfl, hk, HK, B0, BK, HB⟩ := hrel
    by_cases hlt : k < n
    · obtain ⟨b, o, s, x, rfl, hbl, hx, e0, e1⟩ := (HRE.out wr HB.out).at_ hlt
      have hkn : (k : Int) < (n : Int) := by omega
      have HX := hide hx
      obtain ⟨W1, hW1⟩ : ∃ W1, W1 = wr.alloc (.cells #[.string (bstr s), .int .i64 x] 35) := ⟨_, rfl⟩
      have HB1 := hide (show w.grownBy W1 (some gk) by rw [hW1]; exact gr_below HB.out (bl_alloc (bl_refl _) _))
      have C0 := hide (show Blk W1 w.heap.size _ _ by rw [hW1]; exact B0.out.alloc _)
      have CK := hide (show Blk W1 gk _ _ by rw [hW1]; exact BK.out.alloc _)
      have hl0 := B0.out.lt
      obtain ⟨gb, hgb⟩ : ∃ gb, gb = wr.heap.size := ⟨_, rfl⟩
      have CB' := hide (show Blk W1 gb [.string (bstr s), .int .i64 x] 35 by rw [hW1, hgb]; exact Blk.new wr _ _)
      have hgb0 : w.heap.size < gb := by omega
      have HPREV := hide (show ∀ k1, 0 < k → k1 = k - 1 → ∃ p y, l[k1]? = some (p, y) ∧ W1.cell? ⟨b, o + k1 * 2, none⟩ = some (.string (bstr p)) from fun k1 h0 h1 => by
        obtain ⟨b', o', p, y, ha, -, hp, q0, -⟩ := (HRE.out W1 HB1.out).at_ (k := k1) (by omega)
        injection ha with ha
        injection ha with q1 q2
        subst q1 q2
        exact ⟨p, y, hp, q0⟩)
      obtain ⟨vn, hvn⟩ : ∃ vn, vn = vName s := ⟨_, rfl⟩
      have HVN := hide hvn
      have HVC := hide (fun (wx : World) => vname_any s wx)
      rw [← hvn] at HVC
      have HGB := hide hgb
      clear hx hvn hbl B0 BK HB hl0
      go_wp2_with fail
      rw [← hW1, ← hgb]
      clear hW1 e0 e1 hgb
      have f0 : ∀ wx, CB W1.drew wx → wx.cell? ⟨gb, 0, none⟩ = some (.string (bstr s)) := fun wx h => (CB'.out.below h.below).cell rfl
      have f1 : ∀ wx, CB W1.drew wx → wx.cell? ⟨gb, 1, none⟩ = some (.int .i64 x) := fun wx h => (CB'.out.below h.below).cell rfl
      cases vn with
      | false =>
        have hr : dirM m l = false := dirM_no HX.out (fun h => by have := h.1; rw [← HVN.out] at this; cases this)
        refine wp_region_K 38 (by kernel_rfl) (by kernel_rfl) (fun Q HQ => ?_)
        simp only [List.take_succ_cons, List.take_zero, List.map_cons, List.map_nil]
        repeat
          first
          | (refine wpS_skip (b := true) rfl (guard_mk rfl rfl) ?_)
          | (refine wpS_skip (b := false) rfl (guard_mk rfl rfl) ?_)
          | (refine wpS_skipU rfl (guardU_mk rfl rfl) ?_)
          | (first | apply wpS_c rfl | apply wpS_gc rfl (guard_mk rfl rfl)
             focus
               intro ev wx hC hx
               (try simp [Op.operands, Call.operands, opndS, Slot.holds] at hx)
               go_simp
               try (first | exact rfl | exact ⟨Below.refl _ _, rfl⟩ | (go_at_call 63; refine (HVC.out _).mono ?_; rintro e w' ⟨rfl, rfl⟩; exact ⟨rfl, Below.refl _ _⟩))
               done)
          dsimp only [setS, List.set]
        refine wpS_nil (HQ _ fun w3 hC3 => ?_)
        simp only [closeS, List.drop_succ_cons, List.drop_zero, List.drop_nil]
        have HB3 := hide (gr_below HB1.out hC3.below)
        have D0 := hide (C0.out.below hC3.below)
        have DK := hide (CK.out.below hC3.below)
        have DB := hide (CB'.out.below hC3.below)
        clear HQ hC3
        go_wp2
        go_ret
        exact .no hr rfl HB3.out
      | true =>
        by_cases hk0 : k = 0
        · have hk0' : ¬ (0 : Int) < (k : Int) := by omega
          by_cases hx0 : x < 0
          · have hr : dirM m l = false := dirM_no HX.out (fun h => by have := h.2.1; omega)
            refine wp_region_K 38 (by kernel_rfl) (by kernel_rfl) (fun Q HQ => ?_)
            simp only [List.take_succ_cons, List.take_zero, List.map_cons, List.map_nil]
            repeat
              first
              | (refine wpS_skip (b := true) rfl (guard_mk rfl rfl) ?_)
              | (refine wpS_skip (b := false) rfl (guard_mk rfl rfl) ?_)
              | (refine wpS_skipU rfl (guardU_mk rfl rfl) ?_)
              | (first | apply wpS_c rfl | apply wpS_gc rfl (guard_mk rfl rfl)
                 focus
                   intro ev wx hC hx
                   (try simp [Op.operands, Call.operands, opndS, Slot.holds] at hx)
                   go_simp
                   try (first | exact rfl | exact ⟨Below.refl _ _, rfl⟩ | (go_at_call 63; refine (HVC.out _).mono ?_; rintro e w' ⟨rfl, rfl⟩; exact ⟨rfl, Below.refl _ _⟩))
                   done)
              dsimp only [setS, List.set]
            refine wpS_nil (HQ _ fun w3 hC3 => ?_)
            simp only [closeS, List.drop_succ_cons, List.drop_zero, List.drop_nil]
            have HB3 := hide (gr_below HB1.out hC3.below)
            have D0 := hide (C0.out.below hC3.below)
            have DK := hide (CK.out.below hC3.below)
            have DB := hide (CB'.out.below hC3.below)
            clear HQ hC3
            go_wp2
            go_ret
            exact .no hr rfl HB3.out
          by_cases hxm : (m : Int) ≤ x
          · have hr : dirM m l = false := dirM_no HX.out (fun h => by have := h.2.2.1; omega)
            refine wp_region_K 38 (by kernel_rfl) (by kernel_rfl) (fun Q HQ => ?_)
            simp only [List.take_succ_cons, List.take_zero, List.map_cons, List.map_nil]
            repeat
              first
              | (refine wpS_skip (b := true) rfl (guard_mk rfl rfl) ?_)
              | (refine wpS_skip (b := false) rfl (guard_mk rfl rfl) ?_)
              | (refine wpS_skipU rfl (guardU_mk rfl rfl) ?_)
              | (first | apply wpS_c rfl | apply wpS_gc rfl (guard_mk rfl rfl)
                 focus
                   intro ev wx hC hx
                   (try simp [Op.operands, Call.operands, opndS, Slot.holds] at hx)
                   go_simp
                   try (first | exact rfl | exact ⟨Below.refl _ _, rfl⟩ | (go_at_call 63; refine (HVC.out _).mono ?_; rintro e w' ⟨rfl, rfl⟩; exact ⟨rfl, Below.refl _ _⟩))
                   done)
              dsimp only [setS, List.set]
            refine wpS_nil (HQ _ fun w3 hC3 => ?_)
            simp only [closeS, List.drop_succ_cons, List.drop_zero, List.drop_nil]
            have HB3 := hide (gr_below HB1.out hC3.below)
            have D0 := hide (C0.out.below hC3.below)
            have DK := hide (CK.out.below hC3.below)
            have DB := hide (CB'.out.below hC3.below)
            clear HQ hC3
            go_wp2
            go_ret
            exact .no hr rfl HB3.out
          obtain ⟨j, rfl⟩ : ∃ j : Nat, x = (j : Int) := ⟨_, (Int.toNat_of_nonneg (by omega)).symm⟩
          have hjm : j < m := by omega
          obtain ⟨ob, hob⟩ : ∃ ob, ob = (l.take k).any fun e => e.2 == (j : Int) := ⟨_, rfl⟩
          have f3 : ∀ wx, CB W1.drew wx → wx.cell? ⟨w.heap.size, j, none⟩ = some (.bool ob) := fun wx h => (C0.out.below h.below).cell (by rw [knL_get hjm, hob])
          have HOB := hide hob
          clear hob
          cases ob with
          | true =>
            have hr : dirM m l = false := by
              obtain ⟨e, he, hej⟩ := List.any_eq_true.1 HOB.out.symm
              obtain ⟨q, hq, rfl⟩ := List.mem_iff_getElem.1 he
              rw [List.length_take] at hq
              rw [List.getElem_take] at hej
              exact dirM_no HX.out (fun h => h.2.2.2.2 q _ (by omega) (List.getElem?_eq_getElem (by omega)) (by simpa using hej))
            refine wp_region_K 38 (by kernel_rfl) (by kernel_rfl) (fun Q HQ => ?_)
            simp only [List.take_succ_cons, List.take_zero, List.map_cons, List.map_nil]
            repeat
              first
              | (refine wpS_skip (b := true) rfl (guard_mk rfl rfl) ?_)
              | (refine wpS_skip (b := false) rfl (guard_mk rfl rfl) ?_)
              | (refine wpS_skipU rfl (guardU_mk rfl rfl) ?_)
              | (first | apply wpS_c rfl | apply wpS_gc rfl (guard_mk rfl rfl)
                 focus
                   intro ev wx hC hx
                   (try simp [Op.operands, Call.operands, opndS, Slot.holds] at hx)
                   go_simp
                   try (first | exact rfl | exact ⟨Below.refl _ _, rfl⟩ | (go_at_call 63; refine (HVC.out _).mono ?_; rintro e w' ⟨rfl, rfl⟩; exact ⟨rfl, Below.refl _ _⟩))
                   done)
              dsimp only [setS, List.set]
            refine wpS_nil (HQ _ fun w3 hC3 => ?_)
            simp only [closeS, List.drop_succ_cons, List.drop_zero, List.drop_nil]
            have HB3 := hide (gr_below HB1.out hC3.below)
            have D0 := hide (C0.out.below hC3.below)
            have DK := hide (CK.out.below hC3.below)
            have DB := hide (CB'.out.below hC3.below)
            clear HQ hC3
            go_wp2
            go_ret
            exact .no hr rfl HB3.out
          | false =>
            have HOK := hide (show okE m l k (s, (j : Int)) from ⟨HVN.out.symm, by simp only []; omega, by simp only []; omega, fun f h0 => absurd h0 (by omega), fun q f hq hf => by
              intro he
              have := List.any_eq_false.1 HOB.out.symm f (by
                obtain ⟨h1, h2⟩ := List.getElem?_eq_some_iff.1 hf
                rw [List.mem_iff_getElem]
                exact ⟨q, by rw [List.length_take]; omega, by rw [List.getElem_take]; exact h2⟩)
              simp only [] at he
              exact this (by simpa using he)⟩)
            refine wp_region_K 38 (by kernel_rfl) (by kernel_rfl) (fun Q HQ => ?_)
            simp only [List.take_succ_cons, List.take_zero, List.map_cons, List.map_nil]
            repeat
              first
              | (refine wpS_skip (b := true) rfl (guard_mk rfl rfl) ?_)
              | (refine wpS_skip (b := false) rfl (guard_mk rfl rfl) ?_)
              | (refine wpS_skipU rfl (guardU_mk rfl rfl) ?_)
              | (first | apply wpS_c rfl | apply wpS_gc rfl (guard_mk rfl rfl)
                 focus
                   intro ev wx hC hx
                   (try simp [Op.operands, Call.operands, opndS, Slot.holds] at hx)
                   go_simp
                   try (first | exact rfl | exact ⟨Below.refl _ _, rfl⟩ | (go_at_call 63; refine (HVC.out _).mono ?_; rintro e w' ⟨rfl, rfl⟩; exact ⟨rfl, Below.refl _ _⟩))
                   done)
              dsimp only [setS, List.set]
            refine wpS_nil (HQ _ fun w3 hC3 => ?_)
            simp only [closeS, List.drop_succ_cons, List.drop_zero, List.drop_nil]
            have HB3 := hide (gr_below HB1.out hC3.below)
            have D0 := hide (C0.out.below hC3.below)
            have DK := hide (CK.out.below hC3.below)
            have DB := hide (CB'.out.below hC3.below)
            clear HQ hC3
            go_wp2_with fail
            have hstart : StG w3 w.heap.size j (.bool true) 7 (fun _ => false) w3.drew := ⟨w3.drew, bl_drew (bl_refl w3), by simp⟩
            refine wp_region_G 8 (StG w3 w.heap.size j (.bool true) 7) (by kernel_rfl) (by kernel_rfl) hstart (fun Q HQ => ?_)
            simp only [List.take_succ_cons, List.take_zero, List.map_cons, List.map_nil]
            repeat
              first | apply wpG_c rfl | apply wpG_gc rfl (guard_mk rfl rfl)
              focus
                intro L ev wx hG hL hM hx
                (try simp [Op.operands, Call.operands, opndS, Slot.holds] at hx)
                have k1 : wx.cell? ⟨gb, 1, none⟩ = some (.int .i64 (j : Int)) := (hG.blk DB.out (by omega)).cell rfl
                go_simp
                try (first | exact ⟨hG, rfl⟩)
                done
              dsimp only [setS, List.set]
            apply wpG_c rfl
            focus
              intro L ev wx hG hL hM hx
              (try simp [Op.operands, Call.operands, opndS, Slot.holds] at hx)
              have k0 : wx.cell? ⟨w.heap.size, j, none⟩ = some (.bool false) := (hG.blk0 hL D0.out).cell (by rw [knL_get hjm, ← HOB.out])
              have kf : wx.frozen? ⟨w.heap.size, j, none⟩ = false := (hG.blk0 hL D0.out).fr _
              go_simp
              exact ⟨hG.store hL, rfl⟩
            dsimp only [setS, List.set]
            refine wpG_nil (HQ _ fun w4 hG4 => ?_)
            simp only [closeS, List.drop_succ_cons, List.drop_zero, List.drop_nil]
            have EK := hide (hG4.blk DK.out (by have := HGK.out; omega))
            obtain ⟨wy, hby, hw4⟩ := hG4
            have hw4' : w4 = wy.setCell ⟨w.heap.size, j, none⟩ (.bool true) := hw4
            have htk : l.take (k + 1) = l.take k ++ [(s, (j : Int))] := by rw [List.take_add_one, HX.out]; rfl
            have E0 := hide (show Blk w4 w.heap.size (knL (l.take (k + 1)) m) 4 by
              rw [hw4', htk, ← knL_set (e := (s, (j : Int))) hjm rfl]
              exact (D0.out.below hby).set j _)
            have HB4 := hide (show w.grownBy w4 (some gk) by rw [hw4']; exact gr_setG (gr_below HB3.out hby) (Nat.le_refl _) _ _)
            have HTK := hide htk
            clear hby hw4 hw4' HQ hstart D0 DK DB HB3 htk
            have q0 : w4.cell? ⟨gk, j, none⟩ = some _ := EK.out.cell (knL_get hjm)
            have qf := EK.out.fr
            have ql := EK.out.lt
            go_wp2
            go_roundw
            case rel =>
              have hne : w.heap.size ≠ gk := by have := HGK.out; omega
              refine ⟨k + 1, by go_num, by omega, hide (fun q e hq he => ?_), hide (E0.out.setne hne _ _), hide ?_, hide (gr_setR HB4.out _ _)⟩
              · by_cases hqk : q = k
                · subst hqk
                  rw [HX.out] at he
                  injection he with he
                  subst he
                  exact HOK.out
                · exact HK.out q e (by omega) he
              · rw [HTK.out, ← List.append_assoc, ← knL_set (e := (s, (j : Int))) hjm rfl]
                exact EK.out.set j _
            case measure => simp [intOf]; omega
        · have hk0' : (0 : Int) < (k : Int) := by omega
          have hk0n : 0 < k := by omega
          obtain ⟨k1, hk1⟩ : ∃ k1, k1 = k - 1 := ⟨_, rfl⟩
          obtain ⟨p, y, hp, q0⟩ := HPREV.out k1 (by omega) hk1
          have ek1 : (k : Int) - 1 = (k1 : Int) := by omega
          have ew1 : IntKind.i64.wrap (k1 : Int) = (k1 : Int) := wrap_ok (by omega) (by omega)
          have hk1n : (k1 : Int) < (n : Int) := by omega
          have HKP := hide (And.intro hk1 hp)
          have f2 : ∀ wx, CB W1.drew wx → wx.cell? ⟨b, o + k1 * 2, none⟩ = some (.string (bstr p)) := fun wx h => h.cell q0
          obtain ⟨r, hr⟩ : ∃ r, r = Op.bytesLess p s := ⟨_, rfl⟩
          have hr' := hr.symm
          have HRE' := hide (show nlt p s = r from hr.symm)
          clear hr hp hk1 q0 hk0
          cases r with
          | false =>
            have hr : dirM m l = false := dirM_no HX.out (fun h => by
              have := h.2.2.2.1 (p, y) hk0n (by rw [← HKP.out.1]; exact HKP.out.2)
              rw [HRE'.out] at this; cases this)
            refine wp_region_K 38 (by kernel_rfl) (by kernel_rfl) (fun Q HQ => ?_)
            simp only [List.take_succ_cons, List.take_zero, List.map_cons, List.map_nil]
            repeat
              first
              | (refine wpS_skip (b := true) rfl (guard_mk rfl rfl) ?_)
              | (refine wpS_skip (b := false) rfl (guard_mk rfl rfl) ?_)
              | (refine wpS_skipU rfl (guardU_mk rfl rfl) ?_)
              | (first | apply wpS_c rfl | apply wpS_gc rfl (guard_mk rfl rfl)
                 focus
                   intro ev wx hC hx
                   (try simp [Op.operands, Call.operands, opndS, Slot.holds] at hx)
                   go_simp
                   try (first | exact rfl | exact ⟨Below.refl _ _, rfl⟩ | (go_at_call 63; refine (HVC.out _).mono ?_; rintro e w' ⟨rfl, rfl⟩; exact ⟨rfl, Below.refl _ _⟩))
                   done)
              dsimp only [setS, List.set]
            refine wpS_nil (HQ _ fun w3 hC3 => ?_)
            simp only [closeS, List.drop_succ_cons, List.drop_zero, List.drop_nil]
            have HB3 := hide (gr_below HB1.out hC3.below)
            have D0 := hide (C0.out.below hC3.below)
            have DK := hide (CK.out.below hC3.below)
            have DB := hide (CB'.out.below hC3.below)
            clear HQ hC3
            go_wp2
            go_ret
            exact .no hr rfl HB3.out
          | true =>
            by_cases hx0 : x < 0
            · have hr : dirM m l = false := dirM_no HX.out (fun h => by have := h.2.1; omega)
              refine wp_region_K 38 (by kernel_rfl) (by kernel_rfl) (fun Q HQ => ?_)
              simp only [List.take_succ_cons, List.take_zero, List.map_cons, List.map_nil]
              repeat
                first
                | (refine wpS_skip (b := true) rfl (guard_mk rfl rfl) ?_)
                | (refine wpS_skip (b := false) rfl (guard_mk rfl rfl) ?_)
                | (refine wpS_skipU rfl (guardU_mk rfl rfl) ?_)
                | (first | apply wpS_c rfl | apply wpS_gc rfl (guard_mk rfl rfl)
                   focus
                     intro ev wx hC hx
                     (try simp [Op.operands, Call.operands, opndS, Slot.holds] at hx)
                     go_simp
                     try (first | exact rfl | exact ⟨Below.refl _ _, rfl⟩ | (go_at_call 63; refine (HVC.out _).mono ?_; rintro e w' ⟨rfl, rfl⟩; exact ⟨rfl, Below.refl _ _⟩))
                     done)
                dsimp only [setS, List.set]
              refine wpS_nil (HQ _ fun w3 hC3 => ?_)
              simp only [closeS, List.drop_succ_cons, List.drop_zero, List.drop_nil]
              have HB3 := hide (gr_below HB1.out hC3.below)
              have D0 := hide (C0.out.below hC3.below)
              have DK := hide (CK.out.below hC3.below)
              have DB := hide (CB'.out.below hC3.below)
              clear HQ hC3
              go_wp2
              go_ret
              exact .no hr rfl HB3.out
            by_cases hxm : (m : Int) ≤ x
            · have hr : dirM m l = false := dirM_no HX.out (fun h => by have := h.2.2.1; omega)
              refine wp_region_K 38 (by kernel_rfl) (by kernel_rfl) (fun Q HQ => ?_)
              simp only [List.take_succ_cons, List.take_zero, List.map_cons, List.map_nil]
              repeat
                first
                | (refine wpS_skip (b := true) rfl (guard_mk rfl rfl) ?_)
                | (refine wpS_skip (b := false) rfl (guard_mk rfl rfl) ?_)
                | (refine wpS_skipU rfl (guardU_mk rfl rfl) ?_)
                | (first | apply wpS_c rfl | apply wpS_gc rfl (guard_mk rfl rfl)
                   focus
                     intro ev wx hC hx
                     (try simp [Op.operands, Call.operands, opndS, Slot.holds] at hx)
                     go_simp
                     try (first | exact rfl | exact ⟨Below.refl _ _, rfl⟩ | (go_at_call 63; refine (HVC.out _).mono ?_; rintro e w' ⟨rfl, rfl⟩; exact ⟨rfl, Below.refl _ _⟩))
                     done)
                dsimp only [setS, List.set]
              refine wpS_nil (HQ _ fun w3 hC3 => ?_)
              simp only [closeS, List.drop_succ_cons, List.drop_zero, List.drop_nil]
              have HB3 := hide (gr_below HB1.out hC3.below)
              have D0 := hide (C0.out.below hC3.below)
              have DK := hide (CK.out.below hC3.below)
              have DB := hide (CB'.out.below hC3.below)
              clear HQ hC3
              go_wp2
              go_ret
              exact .no hr rfl HB3.out
            obtain ⟨j, rfl⟩ : ∃ j : Nat, x = (j : Int) := ⟨_, (Int.toNat_of_nonneg (by omega)).symm⟩
            have hjm : j < m := by omega
            obtain ⟨ob, hob⟩ : ∃ ob, ob = (l.take k).any fun e => e.2 == (j : Int) := ⟨_, rfl⟩
            have f3 : ∀ wx, CB W1.drew wx → wx.cell? ⟨w.heap.size, j, none⟩ = some (.bool ob) := fun wx h => (C0.out.below h.below).cell (by rw [knL_get hjm, hob])
            have HOB := hide hob
            clear hob
            cases ob with
            | true =>
              have hr : dirM m l = false := by
                obtain ⟨e, he, hej⟩ := List.any_eq_true.1 HOB.out.symm
                obtain ⟨q, hq, rfl⟩ := List.mem_iff_getElem.1 he
                rw [List.length_take] at hq
                rw [List.getElem_take] at hej
                exact dirM_no HX.out (fun h => h.2.2.2.2 q _ (by omega) (List.getElem?_eq_getElem (by omega)) (by simpa using hej))
              refine wp_region_K 38 (by kernel_rfl) (by kernel_rfl) (fun Q HQ => ?_)
              simp only [List.take_succ_cons, List.take_zero, List.map_cons, List.map_nil]
              repeat
                first
                | (refine wpS_skip (b := true) rfl (guard_mk rfl rfl) ?_)
                | (refine wpS_skip (b := false) rfl (guard_mk rfl rfl) ?_)
                | (refine wpS_skipU rfl (guardU_mk rfl rfl) ?_)
                | (first | apply wpS_c rfl | apply wpS_gc rfl (guard_mk rfl rfl)
                   focus
                     intro ev wx hC hx
                     (try simp [Op.operands, Call.operands, opndS, Slot.holds] at hx)
                     go_simp
                     try (first | exact rfl | exact ⟨Below.refl _ _, rfl⟩ | (go_at_call 63; refine (HVC.out _).mono ?_; rintro e w' ⟨rfl, rfl⟩; exact ⟨rfl, Below.refl _ _⟩))
                     done)
                dsimp only [setS, List.set]
              refine wpS_nil (HQ _ fun w3 hC3 => ?_)
              simp only [closeS, List.drop_succ_cons, List.drop_zero, List.drop_nil]
              have HB3 := hide (gr_below HB1.out hC3.below)
              have D0 := hide (C0.out.below hC3.below)
              have DK := hide (CK.out.below hC3.below)
              have DB := hide (CB'.out.below hC3.below)
              clear HQ hC3
              go_wp2
              go_ret
              exact .no hr rfl HB3.out
            | false =>
              have HOK := hide (show okE m l k (s, (j : Int)) from ⟨HVN.out.symm, by simp only []; omega, by simp only []; omega, (fun f _ hf => by rw [← HKP.out.1, HKP.out.2] at hf; injection hf with hf; subst hf; exact HRE'.out), fun q f hq hf => by
                intro he
                have := List.any_eq_false.1 HOB.out.symm f (by
                  obtain ⟨h1, h2⟩ := List.getElem?_eq_some_iff.1 hf
                  rw [List.mem_iff_getElem]
                  exact ⟨q, by rw [List.length_take]; omega, by rw [List.getElem_take]; exact h2⟩)
                simp only [] at he
                exact this (by simpa using he)⟩)
              refine wp_region_K 38 (by kernel_rfl) (by kernel_rfl) (fun Q HQ => ?_)
              simp only [List.take_succ_cons, List.take_zero, List.map_cons, List.map_nil]
              repeat
                first
                | (refine wpS_skip (b := true) rfl (guard_mk rfl rfl) ?_)
                | (refine wpS_skip (b := false) rfl (guard_mk rfl rfl) ?_)
                | (refine wpS_skipU rfl (guardU_mk rfl rfl) ?_)
                | (first | apply wpS_c rfl | apply wpS_gc rfl (guard_mk rfl rfl)
                   focus
                     intro ev wx hC hx
                     (try simp [Op.operands, Call.operands, opndS, Slot.holds] at hx)
                     go_simp
                     try (first | exact rfl | exact ⟨Below.refl _ _, rfl⟩ | (go_at_call 63; refine (HVC.out _).mono ?_; rintro e w' ⟨rfl, rfl⟩; exact ⟨rfl, Below.refl _ _⟩))
                     done)
                dsimp only [setS, List.set]
              refine wpS_nil (HQ _ fun w3 hC3 => ?_)
              simp only [closeS, List.drop_succ_cons, List.drop_zero, List.drop_nil]
              have HB3 := hide (gr_below HB1.out hC3.below)
              have D0 := hide (C0.out.below hC3.below)
              have DK := hide (CK.out.below hC3.below)
              have DB := hide (CB'.out.below hC3.below)
              clear HQ hC3
              go_wp2_with fail
              have hstart : StG w3 w.heap.size j (.bool true) 7 (fun _ => false) w3.drew := ⟨w3.drew, bl_drew (bl_refl w3), by simp⟩
              refine wp_region_G 8 (StG w3 w.heap.size j (.bool true) 7) (by kernel_rfl) (by kernel_rfl) hstart (fun Q HQ => ?_)
              simp only [List.take_succ_cons, List.take_zero, List.map_cons, List.map_nil]
              repeat
                first | apply wpG_c rfl | apply wpG_gc rfl (guard_mk rfl rfl)
                focus
                  intro L ev wx hG hL hM hx
                  (try simp [Op.operands, Call.operands, opndS, Slot.holds] at hx)
                  have k1 : wx.cell? ⟨gb, 1, none⟩ = some (.int .i64 (j : Int)) := (hG.blk DB.out (by omega)).cell rfl
                  go_simp
                  try (first | exact ⟨hG, rfl⟩)
                  done
                dsimp only [setS, List.set]
              apply wpG_c rfl
              focus
                intro L ev wx hG hL hM hx
                (try simp [Op.operands, Call.operands, opndS, Slot.holds] at hx)
                have k0 : wx.cell? ⟨w.heap.size, j, none⟩ = some (.bool false) := (hG.blk0 hL D0.out).cell (by rw [knL_get hjm, ← HOB.out])
                have kf : wx.frozen? ⟨w.heap.size, j, none⟩ = false := (hG.blk0 hL D0.out).fr _
                go_simp
                exact ⟨hG.store hL, rfl⟩
              dsimp only [setS, List.set]
              refine wpG_nil (HQ _ fun w4 hG4 => ?_)
              simp only [closeS, List.drop_succ_cons, List.drop_zero, List.drop_nil]
              have EK := hide (hG4.blk DK.out (by have := HGK.out; omega))
              obtain ⟨wy, hby, hw4⟩ := hG4
              have hw4' : w4 = wy.setCell ⟨w.heap.size, j, none⟩ (.bool true) := hw4
              have htk : l.take (k + 1) = l.take k ++ [(s, (j : Int))] := by rw [List.take_add_one, HX.out]; rfl
              have E0 := hide (show Blk w4 w.heap.size (knL (l.take (k + 1)) m) 4 by
                rw [hw4', htk, ← knL_set (e := (s, (j : Int))) hjm rfl]
                exact (D0.out.below hby).set j _)
              have HB4 := hide (show w.grownBy w4 (some gk) by rw [hw4']; exact gr_setG (gr_below HB3.out hby) (Nat.le_refl _) _ _)
              have HTK := hide htk
              clear hby hw4 hw4' HQ hstart D0 DK DB HB3 htk
              have q0 : w4.cell? ⟨gk, j, none⟩ = some _ := EK.out.cell (knL_get hjm)
              have qf := EK.out.fr
              have ql := EK.out.lt
              go_wp2
              go_roundw
              case rel =>
                have hne : w.heap.size ≠ gk := by have := HGK.out; omega
                refine ⟨k + 1, by go_num, by omega, hide (fun q e hq he => ?_), hide (E0.out.setne hne _ _), hide ?_, hide (gr_setR HB4.out _ _)⟩
                · by_cases hqk : q = k
                  · subst hqk
                    rw [HX.out] at he
                    injection he with he
                    subst he
                    exact HOK.out
                  · exact HK.out q e (by omega) he
                · rw [HTK.out, ← List.append_assoc, ← knL_set (e := (s, (j : Int))) hjm rfl]
                  exact EK.out.set j _
              case measure => simp [intOf]; omega
    · obtain rfl : k = n := by omega
      have hkn : ¬ (k : Int) < (k : Int) := by omega
      have hr : dirM m l = true := (dirM_iff m l).2 (fun i e he => HK.out i e (by rw [HN.out]; exact (List.getElem?_eq_some_iff.1 he).1) he)
      have HRR := hide hr
      have BK2 := hide (show Blk wr gk (knL (L0 ++ l) m) 4 by have := BK.out; rw [List.take_of_length_le (by rw [← HN.out]; exact Nat.le_refl _)] at this; exact this)
      clear hr
      go_wp2
      go_ret
      exact ⟨by rw [HRR.out]; rfl, HB.out, fun _ => BK2.out⟩
end Go.Proofs.Ytjpmfiicbokdcaa
