/- The walks of the reference's SameOps and Same. -/
import Derived.Test.YtjpmfiicbokdcaaDgW
namespace Go.Proofs.Ytjpmfiicbokdcaa
open Go.RowKit
set_option linter.unusedVariables false
set_option linter.unusedSimpArgs false
theorem take_ne {α : Type} {l m : List α} {k : Nat} {x y : α} (hx : l[k]? = some x) (hy : m[k]? = some y) (h : x ≠ y) : l ≠ m := by
  intro e; subst e; rw [hx] at hy; injection hy with hy; exact h hy
set_option maxHeartbeats 16000000 in
set_option maxRecDepth 100000 in
theorem rsameops_any (a : Option Addr) (n c : Nat) (l : List DOp) (a' : Option Addr) (n' c' : Nat) (l' : List DOp) (w : World) (h : RO w a n l) (h' : RO w a' n' l') (hn : n ≤ 100000) (hn' : n' ≤ 100000) :
    Calls Try.prog 52 #[.slice a n c, .slice a' n' c'] w fun e w' => e = .returned (.bool (decide (l = l'))) ∧ Below w.heap.size w w' := by
  obtain ⟨r, hr⟩ : ∃ r, r = decide (l = l') := ⟨_, rfl⟩
  have HNO := hide (fun (hv : l ≠ l') => show r = false by rw [hr]; exact decide_eq_false hv)
  have HYES := hide (fun (hv : l = l') => show r = true by rw [hr]; exact decide_eq_true hv)
  rw [← hr]
  clear hr
  have H := hide h
  have H' := hide h'
  clear h h'
  go_enter Try.func52, Try.ntmps52
  by_cases hlen : n = n'
  · subst hlen
    have hnf : ((n : Int) != (n : Int)) = false := by simp
    have HE0 := hide (show l.take 0 = l'.take 0 by simp)
    have HR0 := hide (bl_refl w)
    go_wp2_with fail
    go_loopw [13] (fun jv wr => ∃ j : Nat, jv = .int .i64 (j : Int) ∧ j ≤ n ∧ Hid (l.take j = l'.take j) ∧ Hid (Below w.heap.size w wr)) (fun jv _ => n - (intOf jv).toNat)
    case atStart => exact ⟨0, rfl, by omega, HE0, HR0⟩
    case round =>
      obtain ⟨j, rfl, hj, HE, HV⟩ := hrel
      by_cases hjl : j < n
      · obtain ⟨b, o, q, s, t, d, rfl, hbl, hx, e0, e1, e2, e3⟩ := (H.out.below HV.out).at_ hjl
        obtain ⟨b', o', q', s', t', d', rfl, hbl', hx', g0, g1, g2, g3⟩ := (H'.out.below HV.out).at_ hjl
        have hjn : (j : Int) < (n : Int) := by omega
        have HX := hide hx
        have HX' := hide hx'
        have HBAD := hide (fun (hv : (q, s, t, d) ≠ (q', s', t', d')) => HNO.out (take_ne hx hx' hv))
        clear hx hx' hbl hbl'
        go_wp2_with fail
        have f0 : ∀ wx, CB wr.drew wx → wx.cell? ⟨b, o + j * 4, none⟩ = some (.int .i64 q) := fun wx h => h.cell e0
        have f1 : ∀ wx, CB wr.drew wx → wx.cell? ⟨b, o + j * 4 + 1, none⟩ = some (.string (bstr s)) := fun wx h => h.cell e1
        have f2 : ∀ wx, CB wr.drew wx → wx.cell? ⟨b, o + j * 4 + 2, none⟩ = some (.string (bstr t)) := fun wx h => h.cell e2
        have f3 : ∀ wx, CB wr.drew wx → wx.cell? ⟨b, o + j * 4 + 3, none⟩ = some (.string (bstr d)) := fun wx h => h.cell e3
        have i0 : ∀ wx, CB wr.drew wx → wx.cell? ⟨b', o' + j * 4, none⟩ = some (.int .i64 q') := fun wx h => h.cell g0
        have i1 : ∀ wx, CB wr.drew wx → wx.cell? ⟨b', o' + j * 4 + 1, none⟩ = some (.string (bstr s')) := fun wx h => h.cell g1
        have i2 : ∀ wx, CB wr.drew wx → wx.cell? ⟨b', o' + j * 4 + 2, none⟩ = some (.string (bstr t')) := fun wx h => h.cell g2
        have i3 : ∀ wx, CB wr.drew wx → wx.cell? ⟨b', o' + j * 4 + 3, none⟩ = some (.string (bstr d')) := fun wx h => h.cell g3
        by_cases hq : q = q'
        · by_cases hs : s = s'
          · by_cases ht : t = t'
            · by_cases hd : d = d'
              · have HE2 := hide (show l.take (j + 1) = l'.take (j + 1) by rw [List.take_add_one, List.take_add_one, HE.out, HX.out, HX'.out, hq, hs, ht, hd])
                clear HX HX' HBAD
                subst hq hs ht hd
                refine wp_region_K 9 (by kernel_rfl) (by kernel_rfl) (fun Q HQ => ?_)
                simp only [List.take_succ_cons, List.take_zero, List.map_cons, List.map_nil]
                repeat
                  first
                  | (refine wpS_skip (b := true) rfl (guard_mk rfl rfl) ?_)
                  | (refine wpS_skip (b := false) rfl (guard_mk rfl rfl) ?_)
                  | (refine wpS_skipU rfl (guardU_mk rfl rfl) ?_)
                  | (first | apply wpS_c rfl | apply wpS_gc rfl (guard_mk rfl rfl)
                     focus
                       intro ev wx hC hx
                       (try simp [Op.operands, Call.operands, opndS, Slot.holds] at hx)
                       go_simp
                       try (first | exact rfl | exact ⟨Below.refl _ _, rfl⟩)
                       done)
                  dsimp only [setS, List.set]
                refine wpS_nil (HQ _ fun w6 hC6 => ?_)
                simp only [closeS, List.drop_succ_cons, List.drop_zero, List.drop_nil]
                have HV6 := hide (HV.out.trans (hC6.below.mono HV.out.size))
                clear HQ hC6
                go_wp2
                go_roundw
                case rel => exact ⟨j + 1, by go_num, by omega, HE2, HV6⟩
                case measure => simp [intOf]; omega
              · obtain rfl := HBAD.out (fun h => by injection h with h1 h2; injection h2 with h2 h3; injection h3 with h3 h4; exact hd h4)
                refine wp_region_K 9 (by kernel_rfl) (by kernel_rfl) (fun Q HQ => ?_)
                simp only [List.take_succ_cons, List.take_zero, List.map_cons, List.map_nil]
                repeat
                  first
                  | (refine wpS_skip (b := true) rfl (guard_mk rfl rfl) ?_)
                  | (refine wpS_skip (b := false) rfl (guard_mk rfl rfl) ?_)
                  | (refine wpS_skipU rfl (guardU_mk rfl rfl) ?_)
                  | (first | apply wpS_c rfl | apply wpS_gc rfl (guard_mk rfl rfl)
                     focus
                       intro ev wx hC hx
                       (try simp [Op.operands, Call.operands, opndS, Slot.holds] at hx)
                       go_simp
                       try (first | exact rfl | exact ⟨Below.refl _ _, rfl⟩)
                       done)
                  dsimp only [setS, List.set]
                refine wpS_nil (HQ _ fun w6 hC6 => ?_)
                simp only [closeS, List.drop_succ_cons, List.drop_zero, List.drop_nil]
                have HV6 := hide (HV.out.trans (hC6.below.mono HV.out.size))
                clear HQ hC6
                go_wp2
                go_ret
                exact ⟨rfl, HV6.out⟩
            · obtain rfl := HBAD.out (fun h => by injection h with h1 h2; injection h2 with h2 h3; injection h3 with h3 h4; exact ht h3)
              refine wp_region_K 9 (by kernel_rfl) (by kernel_rfl) (fun Q HQ => ?_)
              simp only [List.take_succ_cons, List.take_zero, List.map_cons, List.map_nil]
              repeat
                first
                | (refine wpS_skip (b := true) rfl (guard_mk rfl rfl) ?_)
                | (refine wpS_skip (b := false) rfl (guard_mk rfl rfl) ?_)
                | (refine wpS_skipU rfl (guardU_mk rfl rfl) ?_)
                | (first | apply wpS_c rfl | apply wpS_gc rfl (guard_mk rfl rfl)
                   focus
                     intro ev wx hC hx
                     (try simp [Op.operands, Call.operands, opndS, Slot.holds] at hx)
                     go_simp
                     try (first | exact rfl | exact ⟨Below.refl _ _, rfl⟩)
                     done)
                dsimp only [setS, List.set]
              refine wpS_nil (HQ _ fun w6 hC6 => ?_)
              simp only [closeS, List.drop_succ_cons, List.drop_zero, List.drop_nil]
              have HV6 := hide (HV.out.trans (hC6.below.mono HV.out.size))
              clear HQ hC6
              go_wp2
              go_ret
              exact ⟨rfl, HV6.out⟩
          · obtain rfl := HBAD.out (fun h => by injection h with h1 h2; injection h2 with h2 h3; exact hs h2)
            refine wp_region_K 9 (by kernel_rfl) (by kernel_rfl) (fun Q HQ => ?_)
            simp only [List.take_succ_cons, List.take_zero, List.map_cons, List.map_nil]
            repeat
              first
              | (refine wpS_skip (b := true) rfl (guard_mk rfl rfl) ?_)
              | (refine wpS_skip (b := false) rfl (guard_mk rfl rfl) ?_)
              | (refine wpS_skipU rfl (guardU_mk rfl rfl) ?_)
              | (first | apply wpS_c rfl | apply wpS_gc rfl (guard_mk rfl rfl)
                 focus
                   intro ev wx hC hx
                   (try simp [Op.operands, Call.operands, opndS, Slot.holds] at hx)
                   go_simp
                   try (first | exact rfl | exact ⟨Below.refl _ _, rfl⟩)
                   done)
              dsimp only [setS, List.set]
            refine wpS_nil (HQ _ fun w6 hC6 => ?_)
            simp only [closeS, List.drop_succ_cons, List.drop_zero, List.drop_nil]
            have HV6 := hide (HV.out.trans (hC6.below.mono HV.out.size))
            clear HQ hC6
            go_wp2
            go_ret
            exact ⟨rfl, HV6.out⟩
        · obtain rfl := HBAD.out (fun h => by injection h with h1 h2; exact hq h1)
          refine wp_region_K 9 (by kernel_rfl) (by kernel_rfl) (fun Q HQ => ?_)
          simp only [List.take_succ_cons, List.take_zero, List.map_cons, List.map_nil]
          repeat
            first
            | (refine wpS_skip (b := true) rfl (guard_mk rfl rfl) ?_)
            | (refine wpS_skip (b := false) rfl (guard_mk rfl rfl) ?_)
            | (refine wpS_skipU rfl (guardU_mk rfl rfl) ?_)
            | (first | apply wpS_c rfl | apply wpS_gc rfl (guard_mk rfl rfl)
               focus
                 intro ev wx hC hx
                 (try simp [Op.operands, Call.operands, opndS, Slot.holds] at hx)
                 go_simp
                 try (first | exact rfl | exact ⟨Below.refl _ _, rfl⟩)
                 done)
            dsimp only [setS, List.set]
          refine wpS_nil (HQ _ fun w6 hC6 => ?_)
          simp only [closeS, List.drop_succ_cons, List.drop_zero, List.drop_nil]
          have HV6 := hide (HV.out.trans (hC6.below.mono HV.out.size))
          clear HQ hC6
          go_wp2
          go_ret
          exact ⟨rfl, HV6.out⟩
      · obtain rfl := HYES.out (by
          have h5 := HE.out
          rwa [List.take_of_length_le (by rw [← H.out.1]; omega), List.take_of_length_le (by rw [← H'.out.1]; omega)] at h5)
        have hjn : ¬ (j : Int) < (n : Int) := by omega
        go_wp2
        go_ret
        exact ⟨rfl, HV.out⟩
  · have hne : ((n : Int) == (n' : Int)) = false := by rw [beq_eq_false_iff_ne]; omega
    have hnf : ((n : Int) != (n' : Int)) = true := by simp only [bne, hne]; rfl
    obtain rfl := HNO.out (fun h => hlen (by rw [H.out.1, H'.out.1, h]))
    clear hlen
    go_wp2
    go_ret
    exact ⟨rfl, bl_refl w⟩
/-- The disks of two values are the same. -/
theorem dsk_ext {a b : Dsk} (h1 : a.inodes = b.inodes) (h2 : a.dir = b.dir) (h3 : a.dur = b.dur) (h4 : a.ops = b.ops) : a = b := by
  cases a; cases b; simp only [] at h1 h2 h3 h4; subst h1 h2 h3 h4; rfl
instance : DecidableEq Dsk := fun a b =>
  if h : a.inodes = b.inodes ∧ a.dir = b.dir ∧ a.dur = b.dur ∧ a.ops = b.ops then .isTrue (dsk_ext h.1 h.2.1 h.2.2.1 h.2.2.2)
  else .isFalse fun e => h (by subst e; exact ⟨rfl, rfl, rfl, rfl⟩)
set_option maxHeartbeats 16000000 in
set_option maxRecDepth 100000 in
theorem rsame_any (v v' : Value) (d d' : Dsk) (w : World) (h : IsD w v d) (h' : IsD w v' d') (hs : szD d) (hs' : szD d') :
    Calls Try.prog 21 #[v, v'] w fun e w' => e = .returned (.bool (decide (d = d'))) ∧ Below w.heap.size w w' := by
  obtain ⟨a1, n1, c1, a2, n2, c2, a3, n3, c3, a4, n4, c4, rfl, h1, h2, h3, h4, -⟩ := h.h
  obtain ⟨a1', n1', c1', a2', n2', c2', a3', n3', c3', a4', n4', c4', rfl, h1', h2', h3', h4', -⟩ := h'.h
  have hn1 : n1 ≤ 100000 := by rw [h1.1]; exact hs.1
  have hn2 : n2 ≤ 100000 := by rw [h2.1]; exact hs.2.1
  have hn3 : n3 ≤ 100000 := by rw [h3.1]; exact hs.2.2.1
  have hn4 : n4 ≤ 100000 := by rw [h4.1]; exact hs.2.2.2
  have hn4' : n4' ≤ 100000 := by rw [h4'.1]; exact hs'.2.2.2
  have H1 := hide h1
  have H2 := hide h2
  have H3 := hide h3
  have H1' := hide h1'
  have H2' := hide h2'
  have H3' := hide h3'
  have HOPS := hide (fun (wx : World) (hb : Below w.heap.size w wx) => rsameops_any a4 n4 c4 d.ops a4' n4' c4' d'.ops wx (h4.below hb) (h4'.below hb) hn4 hn4')
  obtain ⟨r, hr⟩ : ∃ r, r = decide (d = d') := ⟨_, rfl⟩
  have HNO := hide (fun (hv : d ≠ d') => show r = false by rw [hr]; exact decide_eq_false hv)
  have HEQ := hide hr
  have hl1 : n1 ≠ n1' → d ≠ d' := fun hn e => hn (by rw [h1.1, h1'.1, e])
  have hl2 : n2 ≠ n2' → d ≠ d' := fun hn e => hn (by rw [h2.1, h2'.1, e])
  have hl3 : n3 ≠ n3' → d ≠ d' := fun hn e => hn (by rw [h3.1, h3'.1, e])
  have hl4 : n4 ≠ n4' → d ≠ d' := fun hn e => hn (by rw [h4.1, h4'.1, e])
  have HLL := hide (And.intro hl1 (And.intro hl2 (And.intro hl3 hl4)))
  rw [← hr]
  clear h h' h1 h2 h3 h4 h1' h2' h3' h4' hr hs hs' hl1 hl2 hl3 hl4
  go_enter Try.func21, Try.ntmps21
  obtain ⟨W1, hW1⟩ : ∃ W1, W1 = w.alloc (.cells #[.slice a1 n1 c1, .slice a2 n2 c2, .slice a3 n3 c3, .slice a4 n4 c4] 27) := ⟨_, rfl⟩
  obtain ⟨W0, hW0⟩ : ∃ W0, W0 = W1.alloc (.cells #[.slice a1' n1' c1', .slice a2' n2' c2', .slice a3' n3' c3', .slice a4' n4' c4'] 27) := ⟨_, rfl⟩
  have hws1 : W1.heap.size = w.heap.size + 1 := by rw [hW1]; simp
  have hws : W0.heap.size = w.heap.size + 2 := by rw [hW0]; simp [hws1]
  have HB1 := hide (show Below w.heap.size w W1 by rw [hW1]; exact bl_alloc (bl_refl w) _)
  have HB1' := hide (show Below W1.heap.size W1 W0 by rw [hW0]; exact bl_alloc (bl_refl W1) _)
  have HB0 := hide (show Below w.heap.size w W0 from HB1.out.trans (HB1'.out.mono HB1.out.size))
  obtain ⟨bx, hbx⟩ : ∃ bx, bx = w.heap.size := ⟨_, rfl⟩
  have hlt1 : bx < W1.heap.size := by omega
  have z0 : W0.cell? ⟨bx, 0, none⟩ = some (.slice a1 n1 c1) := by rw [HB1'.out.cell hlt1, hbx, hW1, cell_of_row _ _ 0 _ _ (0, 0) (heap_alloc_new w _)]; rfl
  have z1 : W0.cell? ⟨bx, 1, none⟩ = some (.slice a2 n2 c2) := by rw [HB1'.out.cell hlt1, hbx, hW1, cell_of_row _ _ 1 _ _ (0, 0) (heap_alloc_new w _)]; rfl
  have z2 : W0.cell? ⟨bx, 2, none⟩ = some (.slice a3 n3 c3) := by rw [HB1'.out.cell hlt1, hbx, hW1, cell_of_row _ _ 2 _ _ (0, 0) (heap_alloc_new w _)]; rfl
  have z3 : W0.cell? ⟨bx, 3, none⟩ = some (.slice a4 n4 c4) := by rw [HB1'.out.cell hlt1, hbx, hW1, cell_of_row _ _ 3 _ _ (0, 0) (heap_alloc_new w _)]; rfl
  have y0 : W0.cell? ⟨bx + 1, 0, none⟩ = some (.slice a1' n1' c1') := by rw [hbx, ← hws1, hW0, cell_of_row _ _ 0 _ _ (0, 0) (heap_alloc_new W1 _)]; rfl
  have y1 : W0.cell? ⟨bx + 1, 1, none⟩ = some (.slice a2' n2' c2') := by rw [hbx, ← hws1, hW0, cell_of_row _ _ 1 _ _ (0, 0) (heap_alloc_new W1 _)]; rfl
  have y2 : W0.cell? ⟨bx + 1, 2, none⟩ = some (.slice a3' n3' c3') := by rw [hbx, ← hws1, hW0, cell_of_row _ _ 2 _ _ (0, 0) (heap_alloc_new W1 _)]; rfl
  have y3 : W0.cell? ⟨bx + 1, 3, none⟩ = some (.slice a4' n4' c4') := by rw [hbx, ← hws1, hW0, cell_of_row _ _ 3 _ _ (0, 0) (heap_alloc_new W1 _)]; rfl
  have HC := hide (fun (wx : World) (hb : Below W0.heap.size W0 wx) => show wx.cell? ⟨bx, 0, none⟩ = some (.slice a1 n1 c1) ∧ wx.cell? ⟨bx, 1, none⟩ = some (.slice a2 n2 c2) ∧ wx.cell? ⟨bx, 2, none⟩ = some (.slice a3 n3 c3) ∧ wx.cell? ⟨bx, 3, none⟩ = some (.slice a4 n4 c4) ∧ wx.cell? ⟨bx + 1, 0, none⟩ = some (.slice a1' n1' c1') ∧ wx.cell? ⟨bx + 1, 1, none⟩ = some (.slice a2' n2' c2') ∧ wx.cell? ⟨bx + 1, 2, none⟩ = some (.slice a3' n3' c3') ∧ wx.cell? ⟨bx + 1, 3, none⟩ = some (.slice a4' n4' c4') from
    ⟨(hb.cell (lt_heap z0)).trans z0, (hb.cell (lt_heap z1)).trans z1, (hb.cell (lt_heap z2)).trans z2, (hb.cell (lt_heap z3)).trans z3, (hb.cell (lt_heap y0)).trans y0, (hb.cell (lt_heap y1)).trans y1, (hb.cell (lt_heap y2)).trans y2, (hb.cell (lt_heap y3)).trans y3⟩)
  by_cases hq1 : n1 ≠ n1'
  · have hne : ((n1 : Int) == (n1' : Int)) = false := by rw [beq_eq_false_iff_ne]; omega
    have hnf : ((n1 : Int) != (n1' : Int)) = true := by simp only [bne, hne]; rfl
    obtain rfl := HNO.out (HLL.out.1 hq1)
    clear hq1 z0 z1 z2 z3 y0 y1 y2 y3 hbx
    go_wp2_with fail
    rw [← hW1, ← hW0]
    go_ret
    exact ⟨rfl, HB0.out⟩
  have hnf1 : ((n1 : Int) != (n1' : Int)) = false := by simp only [bne, show ((n1 : Int) == (n1' : Int)) = true by rw [beq_iff_eq]; omega]; rfl
  by_cases hq2 : n2 ≠ n2'
  · have hne : ((n2 : Int) == (n2' : Int)) = false := by rw [beq_eq_false_iff_ne]; omega
    have hnf : ((n2 : Int) != (n2' : Int)) = true := by simp only [bne, hne]; rfl
    obtain rfl := HNO.out (HLL.out.2.1 hq2)
    clear hq2 z0 z1 z2 z3 y0 y1 y2 y3 hbx
    go_wp2_with fail
    rw [← hW1, ← hW0]
    go_ret
    exact ⟨rfl, HB0.out⟩
  have hnf2 : ((n2 : Int) != (n2' : Int)) = false := by simp only [bne, show ((n2 : Int) == (n2' : Int)) = true by rw [beq_iff_eq]; omega]; rfl
  by_cases hq3 : n3 ≠ n3'
  · have hne : ((n3 : Int) == (n3' : Int)) = false := by rw [beq_eq_false_iff_ne]; omega
    have hnf : ((n3 : Int) != (n3' : Int)) = true := by simp only [bne, hne]; rfl
    obtain rfl := HNO.out (HLL.out.2.2.1 hq3)
    clear hq3 z0 z1 z2 z3 y0 y1 y2 y3 hbx
    go_wp2_with fail
    rw [← hW1, ← hW0]
    go_ret
    exact ⟨rfl, HB0.out⟩
  have hnf3 : ((n3 : Int) != (n3' : Int)) = false := by simp only [bne, show ((n3 : Int) == (n3' : Int)) = true by rw [beq_iff_eq]; omega]; rfl
  by_cases hq4 : n4 ≠ n4'
  · have hne : ((n4 : Int) == (n4' : Int)) = false := by rw [beq_eq_false_iff_ne]; omega
    have hnf : ((n4 : Int) != (n4' : Int)) = true := by simp only [bne, hne]; rfl
    obtain rfl := HNO.out (HLL.out.2.2.2 hq4)
    clear hq4 z0 z1 z2 z3 y0 y1 y2 y3 hbx
    go_wp2_with fail
    rw [← hW1, ← hW0]
    go_ret
    exact ⟨rfl, HB0.out⟩
  have hnf4 : ((n4 : Int) != (n4' : Int)) = false := by simp only [bne, show ((n4 : Int) == (n4' : Int)) = true by rw [beq_iff_eq]; omega]; rfl
  have HQ := hide (show n1 = n1' ∧ n2 = n2' ∧ n3 = n3' from ⟨by omega, by omega, by omega⟩)
  have HBX := hide hbx
  clear hq1 hq2 hq3 hq4 hbx z0 z1 z2 z3 y0 y1 y2 y3
  go_wp2_with fail
  rw [← hW1, ← hW0]
  rw [← HBX.out]
  have HR1 := hide (bl_refl W0)
  obtain ⟨w1, hw1⟩ : ∃ w1, w1 = W0 := ⟨_, rfl⟩
  rw [← hw1]
  have HS1 := hide (show Below W0.heap.size W0 w1 by rw [hw1]; exact bl_refl W0)
  clear HR1 hw1 hW1 hW0
  have HE := hide (show d.inodes.take 0 = d'.inodes.take 0 by simp)
  go_loopw [45] (fun jv wr => ∃ j : Nat, jv = .int .i64 (j : Int) ∧ j ≤ n1 ∧ Hid (d.inodes.take j = d'.inodes.take j) ∧ Hid (Below W0.heap.size W0 wr)) (fun jv _ => n1 - (intOf jv).toNat)
  case atStart => exact ⟨0, rfl, by omega, HE, HS1⟩
  case round =>
    obtain ⟨j, rfl, hj, HE, HV⟩ := hrel
    have HBV := hide (HB0.out.trans (HV.out.mono HB0.out.size))
    by_cases hjl : j < n1
    · obtain ⟨b', o', s, x, rfl, hbl', hx, e0, e1⟩ := (H1.out.below HBV.out).at_ hjl
      obtain ⟨b'', o'', t, y, rfl, hbl'', hy, g0, g1⟩ := (H1'.out.below HBV.out).at_ (show j < n1' by rw [← HQ.out.1]; exact hjl)
      have hjn : (j : Int) < (n1 : Int) := by omega
      have hjn' : (j : Int) < (n1' : Int) := by rw [← HQ.out.1]; exact hjn
      obtain ⟨z0, z1, z2, z3, y0, y1, y2, y3⟩ := HC.out wr HV.out
      have f4 : ∀ wx, CB wr.drew wx → wx.cell? ⟨bx, 0, none⟩ = some (.slice (some ⟨b', o', none⟩) n1 c1) := fun wx h => h.cell z0
      have f5 : ∀ wx, CB wr.drew wx → wx.cell? ⟨bx + 1, 0, none⟩ = some (.slice (some ⟨b'', o'', none⟩) n1' c1') := fun wx h => h.cell y0
      have HX := hide hx
      have HY := hide hy
      have HF4 := hide (And.intro f4 f5)
      have HBAD := hide (fun (hv : (s, x) ≠ (t, y)) => HNO.out (fun e => take_ne hx hy hv (congrArg Dsk.inodes e)))
      clear hx hy hbl' hbl'' z0 z1 z2 z3 y0 y1 y2 y3 f4 f5
      go_wp2_with fail
      obtain ⟨f4, f5⟩ := HF4.out
      have f0 : ∀ wx, CB wr.drew wx → wx.cell? ⟨b', o' + j * 2, none⟩ = some (.string (bstr s)) := fun wx h => h.cell e0
      have f1 : ∀ wx, CB wr.drew wx → wx.cell? ⟨b', o' + j * 2 + 1, none⟩ = some (.int .i64 x) := fun wx h => h.cell e1
      have f2 : ∀ wx, CB wr.drew wx → wx.cell? ⟨b'', o'' + j * 2, none⟩ = some (.string (bstr t)) := fun wx h => h.cell g0
      have f3 : ∀ wx, CB wr.drew wx → wx.cell? ⟨b'', o'' + j * 2 + 1, none⟩ = some (.int .i64 y) := fun wx h => h.cell g1
      by_cases hst : s = t
      · by_cases hxy : x = y
        · have HE2 := hide (show d.inodes.take (j + 1) = d'.inodes.take (j + 1) by rw [List.take_add_one, List.take_add_one, HE.out, HX.out, HY.out, hst, hxy])
          clear HX HY HBAD
          subst hst hxy
          refine wp_region_K 11 (by kernel_rfl) (by kernel_rfl) (fun Q HQ => ?_)
          simp only [List.take_succ_cons, List.take_zero, List.map_cons, List.map_nil]
          repeat
            first
            | (refine wpS_skip (b := true) rfl (guard_mk rfl rfl) ?_)
            | (refine wpS_skip (b := false) rfl (guard_mk rfl rfl) ?_)
            | (refine wpS_skipU rfl (guardU_mk rfl rfl) ?_)
            | (first | apply wpS_c rfl | apply wpS_gc rfl (guard_mk rfl rfl)
               focus
                 intro ev wx hC hx
                 (try simp [Op.operands, Call.operands, opndS, Slot.holds] at hx)
                 go_simp
                 try (first | exact rfl | exact ⟨Below.refl _ _, rfl⟩)
                 done)
            dsimp only [setS, List.set]
          refine wpS_nil (HQ _ fun w6 hC6 => ?_)
          simp only [closeS, List.drop_succ_cons, List.drop_zero, List.drop_nil]
          have HV6 := hide (HV.out.trans (hC6.below.mono HV.out.size))
          have HB6 := hide (HBV.out.trans (hC6.below.mono HBV.out.size))
          clear HQ hC6
          go_wp2
          go_roundw
          case rel => exact ⟨j + 1, by go_num, by omega, HE2, HV6⟩
          case measure => simp [intOf]; omega
        · obtain rfl := HBAD.out (fun h => by injection h with h1 h2; exact hxy h2)
          clear HX HY HBAD
          subst hst
          refine wp_region_K 11 (by kernel_rfl) (by kernel_rfl) (fun Q HQ => ?_)
          simp only [List.take_succ_cons, List.take_zero, List.map_cons, List.map_nil]
          repeat
            first
            | (refine wpS_skip (b := true) rfl (guard_mk rfl rfl) ?_)
            | (refine wpS_skip (b := false) rfl (guard_mk rfl rfl) ?_)
            | (refine wpS_skipU rfl (guardU_mk rfl rfl) ?_)
            | (first | apply wpS_c rfl | apply wpS_gc rfl (guard_mk rfl rfl)
               focus
                 intro ev wx hC hx
                 (try simp [Op.operands, Call.operands, opndS, Slot.holds] at hx)
                 go_simp
                 try (first | exact rfl | exact ⟨Below.refl _ _, rfl⟩)
                 done)
            dsimp only [setS, List.set]
          refine wpS_nil (HQ _ fun w6 hC6 => ?_)
          simp only [closeS, List.drop_succ_cons, List.drop_zero, List.drop_nil]
          have HV6 := hide (HV.out.trans (hC6.below.mono HV.out.size))
          have HB6 := hide (HBV.out.trans (hC6.below.mono HBV.out.size))
          clear HQ hC6
          go_wp2
          go_ret
          exact ⟨rfl, HB6.out⟩
      · obtain rfl := HBAD.out (fun h => by injection h with h1 h2; exact hst h1)
        refine wp_region_K 11 (by kernel_rfl) (by kernel_rfl) (fun Q HQ => ?_)
        simp only [List.take_succ_cons, List.take_zero, List.map_cons, List.map_nil]
        repeat
          first
          | (refine wpS_skip (b := true) rfl (guard_mk rfl rfl) ?_)
          | (refine wpS_skip (b := false) rfl (guard_mk rfl rfl) ?_)
          | (refine wpS_skipU rfl (guardU_mk rfl rfl) ?_)
          | (first | apply wpS_c rfl | apply wpS_gc rfl (guard_mk rfl rfl)
             focus
               intro ev wx hC hx
               (try simp [Op.operands, Call.operands, opndS, Slot.holds] at hx)
               go_simp
               try (first | exact rfl | exact ⟨Below.refl _ _, rfl⟩)
               done)
          dsimp only [setS, List.set]
        refine wpS_nil (HQ _ fun w6 hC6 => ?_)
        simp only [closeS, List.drop_succ_cons, List.drop_zero, List.drop_nil]
        have HV6 := hide (HV.out.trans (hC6.below.mono HV.out.size))
        have HB6 := hide (HBV.out.trans (hC6.below.mono HBV.out.size))
        clear HQ hC6
        go_wp2
        go_ret
        exact ⟨rfl, HB6.out⟩
    · have HD1 := hide (show d.inodes = d'.inodes by
        have h5 := HE.out
        rwa [List.take_of_length_le (by rw [← H1.out.1]; omega), List.take_of_length_le (by rw [← H1'.out.1, ← HQ.out.1]; omega)] at h5)
      have hjn : ¬ (j : Int) < (n1 : Int) := by omega
      obtain ⟨z0, z1, z2, z3, y0, y1, y2, y3⟩ := HC.out wr HV.out
      have HS2 := hide HV.out
      clear HE
      go_wp2_with fail
      clear z0 z1 z2 z3 y0 y1 y2 y3
      have HE := hide (show d.dir.take 0 = d'.dir.take 0 by simp)
      go_loopw [63] (fun jv wr => ∃ j : Nat, jv = .int .i64 (j : Int) ∧ j ≤ n2 ∧ Hid (d.dir.take j = d'.dir.take j) ∧ Hid (Below W0.heap.size W0 wr)) (fun jv _ => n2 - (intOf jv).toNat)
      case atStart => exact ⟨0, rfl, by omega, HE, HS2⟩
      case round =>
        obtain ⟨j, rfl, hj, HE, HV⟩ := hrel
        have HBV := hide (HB0.out.trans (HV.out.mono HB0.out.size))
        by_cases hjl : j < n2
        · obtain ⟨b', o', s, x, rfl, hbl', hx, e0, e1⟩ := (H2.out.below HBV.out).at_ hjl
          obtain ⟨b'', o'', t, y, rfl, hbl'', hy, g0, g1⟩ := (H2'.out.below HBV.out).at_ (show j < n2' by rw [← HQ.out.2.1]; exact hjl)
          have hjn : (j : Int) < (n2 : Int) := by omega
          have hjn' : (j : Int) < (n2' : Int) := by rw [← HQ.out.2.1]; exact hjn
          obtain ⟨z0, z1, z2, z3, y0, y1, y2, y3⟩ := HC.out wr HV.out
          have f4 : ∀ wx, CB wr.drew wx → wx.cell? ⟨bx, 1, none⟩ = some (.slice (some ⟨b', o', none⟩) n2 c2) := fun wx h => h.cell z1
          have f5 : ∀ wx, CB wr.drew wx → wx.cell? ⟨bx + 1, 1, none⟩ = some (.slice (some ⟨b'', o'', none⟩) n2' c2') := fun wx h => h.cell y1
          have HX := hide hx
          have HY := hide hy
          have HF4 := hide (And.intro f4 f5)
          have HBAD := hide (fun (hv : (s, x) ≠ (t, y)) => HNO.out (fun e => take_ne hx hy hv (congrArg Dsk.dir e)))
          clear hx hy hbl' hbl'' z0 z1 z2 z3 y0 y1 y2 y3 f4 f5
          go_wp2_with fail
          obtain ⟨f4, f5⟩ := HF4.out
          have f0 : ∀ wx, CB wr.drew wx → wx.cell? ⟨b', o' + j * 2, none⟩ = some (.string (bstr s)) := fun wx h => h.cell e0
          have f1 : ∀ wx, CB wr.drew wx → wx.cell? ⟨b', o' + j * 2 + 1, none⟩ = some (.int .i64 x) := fun wx h => h.cell e1
          have f2 : ∀ wx, CB wr.drew wx → wx.cell? ⟨b'', o'' + j * 2, none⟩ = some (.string (bstr t)) := fun wx h => h.cell g0
          have f3 : ∀ wx, CB wr.drew wx → wx.cell? ⟨b'', o'' + j * 2 + 1, none⟩ = some (.int .i64 y) := fun wx h => h.cell g1
          by_cases hst : s = t
          · by_cases hxy : x = y
            · have HE2 := hide (show d.dir.take (j + 1) = d'.dir.take (j + 1) by rw [List.take_add_one, List.take_add_one, HE.out, HX.out, HY.out, hst, hxy])
              clear HX HY HBAD
              subst hst hxy
              refine wp_region_K 11 (by kernel_rfl) (by kernel_rfl) (fun Q HQ => ?_)
              simp only [List.take_succ_cons, List.take_zero, List.map_cons, List.map_nil]
              repeat
                first
                | (refine wpS_skip (b := true) rfl (guard_mk rfl rfl) ?_)
                | (refine wpS_skip (b := false) rfl (guard_mk rfl rfl) ?_)
                | (refine wpS_skipU rfl (guardU_mk rfl rfl) ?_)
                | (first | apply wpS_c rfl | apply wpS_gc rfl (guard_mk rfl rfl)
                   focus
                     intro ev wx hC hx
                     (try simp [Op.operands, Call.operands, opndS, Slot.holds] at hx)
                     go_simp
                     try (first | exact rfl | exact ⟨Below.refl _ _, rfl⟩)
                     done)
                dsimp only [setS, List.set]
              refine wpS_nil (HQ _ fun w6 hC6 => ?_)
              simp only [closeS, List.drop_succ_cons, List.drop_zero, List.drop_nil]
              have HV6 := hide (HV.out.trans (hC6.below.mono HV.out.size))
              have HB6 := hide (HBV.out.trans (hC6.below.mono HBV.out.size))
              clear HQ hC6
              go_wp2
              go_roundw
              case rel => exact ⟨j + 1, by go_num, by omega, HE2, HV6⟩
              case measure => simp [intOf]; omega
            · obtain rfl := HBAD.out (fun h => by injection h with h1 h2; exact hxy h2)
              clear HX HY HBAD
              subst hst
              refine wp_region_K 11 (by kernel_rfl) (by kernel_rfl) (fun Q HQ => ?_)
              simp only [List.take_succ_cons, List.take_zero, List.map_cons, List.map_nil]
              repeat
                first
                | (refine wpS_skip (b := true) rfl (guard_mk rfl rfl) ?_)
                | (refine wpS_skip (b := false) rfl (guard_mk rfl rfl) ?_)
                | (refine wpS_skipU rfl (guardU_mk rfl rfl) ?_)
                | (first | apply wpS_c rfl | apply wpS_gc rfl (guard_mk rfl rfl)
                   focus
                     intro ev wx hC hx
                     (try simp [Op.operands, Call.operands, opndS, Slot.holds] at hx)
                     go_simp
                     try (first | exact rfl | exact ⟨Below.refl _ _, rfl⟩)
                     done)
                dsimp only [setS, List.set]
              refine wpS_nil (HQ _ fun w6 hC6 => ?_)
              simp only [closeS, List.drop_succ_cons, List.drop_zero, List.drop_nil]
              have HV6 := hide (HV.out.trans (hC6.below.mono HV.out.size))
              have HB6 := hide (HBV.out.trans (hC6.below.mono HBV.out.size))
              clear HQ hC6
              go_wp2
              go_ret
              exact ⟨rfl, HB6.out⟩
          · obtain rfl := HBAD.out (fun h => by injection h with h1 h2; exact hst h1)
            refine wp_region_K 11 (by kernel_rfl) (by kernel_rfl) (fun Q HQ => ?_)
            simp only [List.take_succ_cons, List.take_zero, List.map_cons, List.map_nil]
            repeat
              first
              | (refine wpS_skip (b := true) rfl (guard_mk rfl rfl) ?_)
              | (refine wpS_skip (b := false) rfl (guard_mk rfl rfl) ?_)
              | (refine wpS_skipU rfl (guardU_mk rfl rfl) ?_)
              | (first | apply wpS_c rfl | apply wpS_gc rfl (guard_mk rfl rfl)
                 focus
                   intro ev wx hC hx
                   (try simp [Op.operands, Call.operands, opndS, Slot.holds] at hx)
                   go_simp
                   try (first | exact rfl | exact ⟨Below.refl _ _, rfl⟩)
                   done)
              dsimp only [setS, List.set]
            refine wpS_nil (HQ _ fun w6 hC6 => ?_)
            simp only [closeS, List.drop_succ_cons, List.drop_zero, List.drop_nil]
            have HV6 := hide (HV.out.trans (hC6.below.mono HV.out.size))
            have HB6 := hide (HBV.out.trans (hC6.below.mono HBV.out.size))
            clear HQ hC6
            go_wp2
            go_ret
            exact ⟨rfl, HB6.out⟩
        · have HD2 := hide (show d.dir = d'.dir by
            have h5 := HE.out
            rwa [List.take_of_length_le (by rw [← H2.out.1]; omega), List.take_of_length_le (by rw [← H2'.out.1, ← HQ.out.2.1]; omega)] at h5)
          have hjn : ¬ (j : Int) < (n2 : Int) := by omega
          obtain ⟨z0, z1, z2, z3, y0, y1, y2, y3⟩ := HC.out wr HV.out
          have HS3 := hide HV.out
          clear HE
          go_wp2_with fail
          clear z0 z1 z2 z3 y0 y1 y2 y3
          have HE := hide (show d.dur.take 0 = d'.dur.take 0 by simp)
          go_loopw [81] (fun jv wr => ∃ j : Nat, jv = .int .i64 (j : Int) ∧ j ≤ n3 ∧ Hid (d.dur.take j = d'.dur.take j) ∧ Hid (Below W0.heap.size W0 wr)) (fun jv _ => n3 - (intOf jv).toNat)
          case atStart => exact ⟨0, rfl, by omega, HE, HS3⟩
          case round =>
            obtain ⟨j, rfl, hj, HE, HV⟩ := hrel
            have HBV := hide (HB0.out.trans (HV.out.mono HB0.out.size))
            by_cases hjl : j < n3
            · obtain ⟨b', o', s, x, rfl, hbl', hx, e0, e1⟩ := (H3.out.below HBV.out).at_ hjl
              obtain ⟨b'', o'', t, y, rfl, hbl'', hy, g0, g1⟩ := (H3'.out.below HBV.out).at_ (show j < n3' by rw [← HQ.out.2.2]; exact hjl)
              have hjn : (j : Int) < (n3 : Int) := by omega
              have hjn' : (j : Int) < (n3' : Int) := by rw [← HQ.out.2.2]; exact hjn
              obtain ⟨z0, z1, z2, z3, y0, y1, y2, y3⟩ := HC.out wr HV.out
              have f4 : ∀ wx, CB wr.drew wx → wx.cell? ⟨bx, 2, none⟩ = some (.slice (some ⟨b', o', none⟩) n3 c3) := fun wx h => h.cell z2
              have f5 : ∀ wx, CB wr.drew wx → wx.cell? ⟨bx + 1, 2, none⟩ = some (.slice (some ⟨b'', o'', none⟩) n3' c3') := fun wx h => h.cell y2
              have HX := hide hx
              have HY := hide hy
              have HF4 := hide (And.intro f4 f5)
              have HBAD := hide (fun (hv : (s, x) ≠ (t, y)) => HNO.out (fun e => take_ne hx hy hv (congrArg Dsk.dur e)))
              clear hx hy hbl' hbl'' z0 z1 z2 z3 y0 y1 y2 y3 f4 f5
              go_wp2_with fail
              obtain ⟨f4, f5⟩ := HF4.out
              have f0 : ∀ wx, CB wr.drew wx → wx.cell? ⟨b', o' + j * 2, none⟩ = some (.string (bstr s)) := fun wx h => h.cell e0
              have f1 : ∀ wx, CB wr.drew wx → wx.cell? ⟨b', o' + j * 2 + 1, none⟩ = some (.int .i64 x) := fun wx h => h.cell e1
              have f2 : ∀ wx, CB wr.drew wx → wx.cell? ⟨b'', o'' + j * 2, none⟩ = some (.string (bstr t)) := fun wx h => h.cell g0
              have f3 : ∀ wx, CB wr.drew wx → wx.cell? ⟨b'', o'' + j * 2 + 1, none⟩ = some (.int .i64 y) := fun wx h => h.cell g1
              by_cases hst : s = t
              · by_cases hxy : x = y
                · have HE2 := hide (show d.dur.take (j + 1) = d'.dur.take (j + 1) by rw [List.take_add_one, List.take_add_one, HE.out, HX.out, HY.out, hst, hxy])
                  clear HX HY HBAD
                  subst hst hxy
                  refine wp_region_K 11 (by kernel_rfl) (by kernel_rfl) (fun Q HQ => ?_)
                  simp only [List.take_succ_cons, List.take_zero, List.map_cons, List.map_nil]
                  repeat
                    first
                    | (refine wpS_skip (b := true) rfl (guard_mk rfl rfl) ?_)
                    | (refine wpS_skip (b := false) rfl (guard_mk rfl rfl) ?_)
                    | (refine wpS_skipU rfl (guardU_mk rfl rfl) ?_)
                    | (first | apply wpS_c rfl | apply wpS_gc rfl (guard_mk rfl rfl)
                       focus
                         intro ev wx hC hx
                         (try simp [Op.operands, Call.operands, opndS, Slot.holds] at hx)
                         go_simp
                         try (first | exact rfl | exact ⟨Below.refl _ _, rfl⟩)
                         done)
                    dsimp only [setS, List.set]
                  refine wpS_nil (HQ _ fun w6 hC6 => ?_)
                  simp only [closeS, List.drop_succ_cons, List.drop_zero, List.drop_nil]
                  have HV6 := hide (HV.out.trans (hC6.below.mono HV.out.size))
                  have HB6 := hide (HBV.out.trans (hC6.below.mono HBV.out.size))
                  clear HQ hC6
                  go_wp2
                  go_roundw
                  case rel => exact ⟨j + 1, by go_num, by omega, HE2, HV6⟩
                  case measure => simp [intOf]; omega
                · obtain rfl := HBAD.out (fun h => by injection h with h1 h2; exact hxy h2)
                  clear HX HY HBAD
                  subst hst
                  refine wp_region_K 11 (by kernel_rfl) (by kernel_rfl) (fun Q HQ => ?_)
                  simp only [List.take_succ_cons, List.take_zero, List.map_cons, List.map_nil]
                  repeat
                    first
                    | (refine wpS_skip (b := true) rfl (guard_mk rfl rfl) ?_)
                    | (refine wpS_skip (b := false) rfl (guard_mk rfl rfl) ?_)
                    | (refine wpS_skipU rfl (guardU_mk rfl rfl) ?_)
                    | (first | apply wpS_c rfl | apply wpS_gc rfl (guard_mk rfl rfl)
                       focus
                         intro ev wx hC hx
                         (try simp [Op.operands, Call.operands, opndS, Slot.holds] at hx)
                         go_simp
                         try (first | exact rfl | exact ⟨Below.refl _ _, rfl⟩)
                         done)
                    dsimp only [setS, List.set]
                  refine wpS_nil (HQ _ fun w6 hC6 => ?_)
                  simp only [closeS, List.drop_succ_cons, List.drop_zero, List.drop_nil]
                  have HV6 := hide (HV.out.trans (hC6.below.mono HV.out.size))
                  have HB6 := hide (HBV.out.trans (hC6.below.mono HBV.out.size))
                  clear HQ hC6
                  go_wp2
                  go_ret
                  exact ⟨rfl, HB6.out⟩
              · obtain rfl := HBAD.out (fun h => by injection h with h1 h2; exact hst h1)
                refine wp_region_K 11 (by kernel_rfl) (by kernel_rfl) (fun Q HQ => ?_)
                simp only [List.take_succ_cons, List.take_zero, List.map_cons, List.map_nil]
                repeat
                  first
                  | (refine wpS_skip (b := true) rfl (guard_mk rfl rfl) ?_)
                  | (refine wpS_skip (b := false) rfl (guard_mk rfl rfl) ?_)
                  | (refine wpS_skipU rfl (guardU_mk rfl rfl) ?_)
                  | (first | apply wpS_c rfl | apply wpS_gc rfl (guard_mk rfl rfl)
                     focus
                       intro ev wx hC hx
                       (try simp [Op.operands, Call.operands, opndS, Slot.holds] at hx)
                       go_simp
                       try (first | exact rfl | exact ⟨Below.refl _ _, rfl⟩)
                       done)
                  dsimp only [setS, List.set]
                refine wpS_nil (HQ _ fun w6 hC6 => ?_)
                simp only [closeS, List.drop_succ_cons, List.drop_zero, List.drop_nil]
                have HV6 := hide (HV.out.trans (hC6.below.mono HV.out.size))
                have HB6 := hide (HBV.out.trans (hC6.below.mono HBV.out.size))
                clear HQ hC6
                go_wp2
                go_ret
                exact ⟨rfl, HB6.out⟩
            · have HD3 := hide (show d.dur = d'.dur by
                have h5 := HE.out
                rwa [List.take_of_length_le (by rw [← H3.out.1]; omega), List.take_of_length_le (by rw [← H3'.out.1, ← HQ.out.2.2]; omega)] at h5)
              have hjn : ¬ (j : Int) < (n3 : Int) := by omega
              obtain ⟨z0, z1, z2, z3, y0, y1, y2, y3⟩ := HC.out wr HV.out
              have HS4 := hide HV.out
              clear HE
              go_wp2_with fail
              clear z0 z1 z2 z3 y0 y1 y2 y3
              refine (HOPS.out wr HBV.out).mono ?_
              rintro e w5 ⟨rfl, hb5⟩
              have HB5 := hide (HBV.out.trans (hb5.mono HBV.out.size))
              clear hb5
              go_wp2_with fail
              go_ret
              have hdd : decide (d.ops = d'.ops) = r := by
                rw [HEQ.out, decide_eq_decide]
                exact ⟨fun e => dsk_ext HD1.out HD2.out HD3.out e, fun e => by rw [e]⟩
              refine ⟨?_, HB5.out⟩
              show Ending.returned (.bool (decide (d.ops = d'.ops))) = _
              rw [hdd]
end Go.Proofs.Ytjpmfiicbokdcaa
