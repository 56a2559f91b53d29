/- The walk of the reference's step. -/
import Derived.Test.YtjpmfiicbokdcaaDcW
namespace Go.Proofs.Ytjpmfiicbokdcaa
open Go.RowKit
set_option linter.unusedVariables false
set_option linter.unusedSimpArgs false
def FreshE (base n : Nat) (xs : List Value) : Value → World → Prop := fun v w => base ≤ w.heap.size ∧ w.ownsRow base 35 2 v n xs
theorem stab_freshE (base n : Nat) (xs : List Value) : Stab (.p (FreshE base n xs)) := fun u w w' hb ⟨h1, h2⟩ => ⟨Nat.le_trans h1 hb.size, ownG_below h2 hb⟩
theorem ino_has {l : List Ent} (h : ∀ e ∈ l, 0 ≤ e.2) (s : List UInt8) : (hasM l s = true ∧ 0 ≤ inoM l s) ∨ (hasM l s = false ∧ inoM l s = -1) := by
  rcases hf : l.find? (fun e => e.1 == s) with _ | e
  · right
    refine ⟨?_, by unfold inoM; rw [hf]⟩
    unfold hasM
    rw [List.any_eq_false]
    intro e he
    have := List.find?_eq_none.1 hf e he
    simpa using this
  · left
    refine ⟨?_, by unfold inoM; rw [hf]; exact h e (List.mem_of_find?_eq_some hf)⟩
    unfold hasM
    rw [List.any_eq_true]
    exact ⟨e, List.mem_of_find?_eq_some hf, List.find?_some (p := fun (e : Ent) => e.1 == s) hf⟩
theorem drop_le (l : List Ent) (s : List UInt8) : (dropM l s).length ≤ l.length := List.length_filter_le _ _
theorem own_RE {w : World} {base n : Nat} {v : Value} {l : List Ent} (h : w.ownsRow base 35 2 v n (l.flatMap encE)) (hn : n = l.length) : ∃ a c, v = .slice a n c ∧ n ≤ c ∧ c ≤ maxLen ∧ RE w a n l := by
  obtain ⟨a, c, hv, hc, hr⟩ := ownG_form h
  refine ⟨a, c, hv, hc, ?_, hn, hr⟩
  rcases h.2 with ⟨h1, -⟩ | ⟨g', cap', cur', h1, -, -, -, h5, -⟩
  · rw [hv] at h1; rw [(Value.slice.inj h1).2.2]; exact Nat.zero_le _
  · rw [hv] at h1; rw [(Value.slice.inj h1).2.2]; exact h5
/-- What a step answers. -/
def StepP (w : World) (r : List Ent × Nat) (e : Ending) (w' : World) : Prop := ∃ v, e = .returned (.tuple #[v, .int .i64 (r.2 : Int)]) ∧ w'.ownsRow w.heap.size 35 2 v r.1.length (r.1.flatMap encE) ∧ Below w.heap.size w w'
theorem StepP.no {w w' : World} {r : List Ent × Nat} {k : Nat} {e : Ending} (hr : r = ([], k)) (he : e = .returned (.tuple #[.slice none 0 0, .int .i64 (k : Int)])) (hb : Below w.heap.size w w') : StepP w r e w' := by
  subst hr
  exact ⟨_, he, ⟨rfl, .inl ⟨rfl, rfl⟩⟩, hb⟩
theorem StepP.ok {w w' : World} {r : List Ent × Nat} {l : List Ent} {v : Value} {e : Ending} (hr : r = (l, 0)) (he : e = .returned (.tuple #[v, .int .i64 0])) (ho : w'.ownsRow w.heap.size 35 2 v l.length (l.flatMap encE)) (hb : Below w.heap.size w w') : StepP w r e w' := by
  subst hr
  exact ⟨_, he, ho, hb⟩
set_option maxHeartbeats 4000000 in
set_option maxRecDepth 100000 in
theorem rstep_any (a : Option Addr) (n c : Nat) (l : List Ent) (o : DOp) (nx : Int) (w : World) (h : RE w a n l) (hn : n ≤ 1000000) (hc : n ≤ c) (hcm : c ≤ maxLen) (hno : ∀ e ∈ l, 0 ≤ e.2) :
    Calls Try.prog 57 #[.slice a n c, oV o, .int .i64 nx] w (StepP w (stepM l o nx)) := by
  obtain ⟨k, s, t, d⟩ := o
  unfold oV
  have HL := hide h
  have HNO := hide hno
  obtain ⟨r, hr⟩ : ∃ r, r = stepM l (k, s, t, d) nx := ⟨_, rfl⟩
  rw [← hr]
  unfold stepM at hr
  simp only [] at hr ⊢
  have HR := hide hr
  have HIH := hide (ino_has hno s)
  clear hr h hno
  go_enter Try.func57, Try.ntmps57
  obtain ⟨W0, hW0⟩ : ∃ W0, W0 = w.alloc (.cells #[.int .i64 k, .string (bstr s), .string (bstr t), .string (bstr d)] 48) := ⟨_, rfl⟩
  have c0 : W0.cell? ⟨w.heap.size, 0, none⟩ = some (.int .i64 k) := by rw [hW0, cell_of_row _ _ 0 _ _ (0, 0) (heap_alloc_new w _)]; rfl
  have c1 : W0.cell? ⟨w.heap.size, 1, none⟩ = some (.string (bstr s)) := by rw [hW0, cell_of_row _ _ 1 _ _ (0, 0) (heap_alloc_new w _)]; rfl
  have c2 : W0.cell? ⟨w.heap.size, 2, none⟩ = some (.string (bstr t)) := by rw [hW0, cell_of_row _ _ 2 _ _ (0, 0) (heap_alloc_new w _)]; rfl
  have c3 : W0.cell? ⟨w.heap.size, 3, none⟩ = some (.string (bstr d)) := by rw [hW0, cell_of_row _ _ 3 _ _ (0, 0) (heap_alloc_new w _)]; rfl
  have HB0 := hide (show Below w.heap.size w W0 by rw [hW0]; exact bl_alloc (bl_refl w) _)
  have hlt0 : w.heap.size < W0.heap.size := by rw [hW0]; simp
  have HC := hide (fun (wx : World) (hb : Below W0.heap.size W0 wx) => show wx.cell? ⟨w.heap.size, 0, none⟩ = some (.int .i64 k) ∧ wx.cell? ⟨w.heap.size, 1, none⟩ = some (.string (bstr s)) ∧ wx.cell? ⟨w.heap.size, 2, none⟩ = some (.string (bstr t)) ∧ wx.cell? ⟨w.heap.size, 3, none⟩ = some (.string (bstr d)) from
    ⟨(hb.cell hlt0).trans c0, (hb.cell hlt0).trans c1, (hb.cell hlt0).trans c2, (hb.cell hlt0).trans c3⟩)
  have HL0 := hide (HL.out.below HB0.out)
  go_wp2_with fail
  rw [← hW0]
  clear hW0 c0 c1 c2 c3
  refine (rfind_any a n c l s W0 HL0.out (by omega)).mono ?_
  rintro e w1 ⟨rfl, hb1⟩
  have HB1 := hide (HB0.out.trans (hb1.mono HB0.out.size))
  have HL1 := hide (HL.out.below HB1.out)
  obtain ⟨c0, c1, c2, c3⟩ := HC.out w1 hb1
  have HBW := hide hb1
  obtain ⟨q, hq⟩ : ∃ q, q = inoM l s := ⟨_, rfl⟩
  have HQ := hide hq
  rw [← hq] at HIH HR ⊢
  clear hb1 hq
  by_cases hk1 : k = 1
  · subst hk1
    rw [if_pos rfl] at HR
    by_cases ht : t = []
    · subst ht
      by_cases hd : d = []
      · subst hd
        rw [if_neg (by simp)] at HR
        go_wp2_with fail
        refine (rvname_any s w1).mono ?_
        rintro e w' ⟨rfl, rfl⟩
        cases hv : vName s with
        | false =>
          rw [if_pos hv] at HR
          clear hv
          go_wp2
          go_ret2
          exact .no HR.out rfl HB1.out
        | true =>
          rw [if_neg (by rw [hv]; decide)] at HR
          clear hv
          rcases HIH.out with ⟨h1, h2⟩ | ⟨h1, h2⟩
          · rw [if_pos h1] at HR
            have hq1 : (q == -1) = false := by rw [beq_eq_false_iff_ne]; omega
            have hq2 : (q != -1) = true := by simp only [bne, hq1]; rfl
            clear h1 h2
            go_wp2
            go_ret2
            exact .no HR.out rfl HB1.out
          · rw [if_neg (by rw [h1]; decide)] at HR
            subst h2
            clear h1
            go_wp2_with fail
            refine (with_any a n c l (s, nx) w1 HL1.out (by omega) hc hcm).mono ?_
            rintro e w2 ⟨v2, rfl, ho2, hb2⟩
            have HO2 := hide (own_baseG ho2 HB1.out.size)
            have HB2 := hide (HB1.out.trans (hb2.mono HB1.out.size))
            clear ho2 hb2
            go_wp2
            go_ret2
            exact .ok HR.out rfl HO2.out HB2.out
      · rw [if_pos (.inr hd)] at HR
        have hd1 : (d == []) = false := by simpa using hd
        have hd2 : (d != []) = true := by simp only [bne, hd1]; rfl
        clear hd
        go_wp2
        go_ret2
        exact .no HR.out rfl HB1.out
    · rw [if_pos (.inl ht)] at HR
      have hd1 : (t == []) = false := by simpa using ht
      have hd2 : (t != []) = true := by simp only [bne, hd1]; rfl
      clear ht
      go_wp2
      go_ret2
      exact .no HR.out rfl HB1.out
  have hk1b : (k == 1) = false := by simpa using hk1
  rw [if_neg hk1] at HR
  by_cases hk4 : k = 4
  · subst hk4
    rw [if_pos rfl] at HR
    clear hk1 hk1b
    by_cases hd : d = []
    · subst hd
      rw [if_neg (by simp)] at HR
      rcases HIH.out with ⟨h1, h2⟩ | ⟨h1, h2⟩
      · rw [if_neg (by rw [h1]; decide)] at HR
        have hq1 : (q == -1) = false := by rw [beq_eq_false_iff_ne]; omega
        have hq2 : (q != -1) = true := by simp only [bne, hq1]; rfl
        clear h1 h2
        go_wp2_with fail
        refine (rvname_any t w1).mono ?_
        rintro e w' ⟨rfl, rfl⟩
        cases hv : vName t with
        | false =>
          rw [if_pos hv] at HR
          clear hv
          go_wp2
          go_ret2
          exact .no HR.out rfl HB1.out
        | true =>
          rw [if_neg (by rw [hv]; decide)] at HR
          clear hv
          by_cases hts : t = s
          · rw [if_pos hts] at HR
            subst hts
            go_wp2
            go_ret2
            exact .no HR.out rfl HB1.out
          · rw [if_neg hts] at HR
            have ht1 : (t == s) = false := by simpa using hts
            clear hts
            go_wp2_with fail
            have HCC := hide (fun (wx : World) (hC : CB w1.drew wx) => HC.out wx (HBW.out.trans (hC.below.mono HBW.out.size)))
            refine wp_region_K 11 (by kernel_rfl) (by kernel_rfl) (fun Q HQ => ?_)
            simp only [List.take_succ_cons, List.take_zero, List.map_cons, List.map_nil]
            repeat
              first | apply wpS_c rfl | apply wpS_gc rfl (guard_mk rfl rfl)
              focus
                intro ev wx hC hx
                (try simp [Op.operands, Call.operands, opndS, Slot.holds] at hx)
                obtain ⟨k0, k1, k2, k3⟩ := HCC.out wx hC
                go_simp
                try (first | exact rfl | exact ⟨Below.refl _ _, rfl⟩)
                done
              dsimp only [setS, List.set]
            refine wpS_p (R := FreshE w1.heap.size (dropM l s).length ((dropM l s).flatMap encE)) rfl (stab_freshE _ _ _) ?_ ?_
            focus
              intro ev wx hC hx
              (try simp [Op.operands, Call.operands, opndS, Slot.holds] at hx)
              go_simp
              refine (without_any a n c l s wx (HL1.out.below hC.below) (by omega)).mono ?_
              rintro e w' ⟨v, rfl, hown, hb⟩
              exact ⟨v, rfl, hb, Nat.le_trans hC.below.size hb.size, own_baseG hown hC.below.size⟩
            dsimp only [setS, List.set]
            repeat
              first | apply wpS_c rfl | apply wpS_gc rfl (guard_mk rfl rfl)
              focus
                intro ev wx hC hx
                (try simp [Op.operands, Call.operands, opndS, Slot.holds] at hx)
                obtain ⟨k0, k1, k2, k3⟩ := HCC.out wx hC
                go_simp
                try (first | exact rfl | exact ⟨Below.refl _ _, rfl⟩)
                done
              dsimp only [setS, List.set]
            refine wpS_p (R := FreshE w1.heap.size (dropM (dropM l s) t).length ((dropM (dropM l s) t).flatMap encE)) rfl (stab_freshE _ _ _) ?_ ?_
            focus
              intro ev wx hC hx
              (try simp [Op.operands, Call.operands, opndS, Slot.holds] at hx)
              obtain ⟨hx0, ⟨hx1, hx2⟩, hx3⟩ := hx
              obtain ⟨A7, c7, e56, hc7, hm7, hr7⟩ := own_RE hx2 rfl
              go_simp
              refine (without_any A7 _ c7 (dropM l s) t wx hr7 (by have := drop_le l s; have := HL1.out.1; omega)).mono ?_
              rintro e w' ⟨v, rfl, hown, hb⟩
              exact ⟨v, rfl, hb, Nat.le_trans hC.below.size hb.size, own_baseG hown hC.below.size⟩
            dsimp only [setS, List.set]
            repeat
              first | apply wpS_c rfl | apply wpS_gc rfl (guard_mk rfl rfl)
              focus
                intro ev wx hC hx
                (try simp [Op.operands, Call.operands, opndS, Slot.holds] at hx)
                obtain ⟨k0, k1, k2, k3⟩ := HCC.out wx hC
                go_simp
                try (first | exact rfl | exact ⟨Below.refl _ _, rfl⟩)
                done
              dsimp only [setS, List.set]
            refine wpS_nil (HQ _ fun w4 hC4 => ?_)
            simp only [closeS, List.drop_succ_cons, List.drop_zero, List.drop_nil]
            have HB4 := hide (HB1.out.trans (hC4.below.mono HB1.out.size))
            clear HQ hC4
            rintro v56 - v59 ⟨-, h59⟩
            obtain ⟨A8, c8, rfl, hc8, hm8, hr8⟩ := own_RE h59 rfl
            have HR8 := hide hr8
            have hdl : (dropM (dropM l s) t).length ≤ 1000000 := by have := drop_le l s; have := drop_le (dropM l s) t; have := HL1.out.1; omega
            obtain ⟨n8, hn8⟩ : ∃ n8, n8 = (dropM (dropM l s) t).length := ⟨_, rfl⟩
            rw [← hn8] at HR8 hdl hc8 ⊢
            clear h59 hr8 hn8 c0 c1 c2 c3
            go_wp2_with fail
            refine (with_any A8 n8 c8 (dropM (dropM l s) t) (t, q) w4 HR8.out (by omega) hc8 hm8).mono ?_
            rintro e w5 ⟨v5, rfl, ho5, hb5⟩
            have HO5 := hide (own_baseG ho5 HB4.out.size)
            have HB5 := hide (HB4.out.trans (hb5.mono HB4.out.size))
            clear ho5 hb5
            go_wp2
            go_ret2
            exact .ok HR.out rfl HO5.out HB5.out
      · rw [if_pos h1] at HR
        subst h2
        clear h1
        go_wp2
        go_ret2
        exact .no HR.out rfl HB1.out
    · rw [if_pos hd] at HR
      have hd1 : (d == []) = false := by simpa using hd
      have hd2 : (d != []) = true := by simp only [bne, hd1]; rfl
      clear hd
      go_wp2
      go_ret2
      exact .no HR.out rfl HB1.out
  have hk4b : (k == 4) = false := by simpa using hk4
  rw [if_neg hk4] at HR
  by_cases hk5 : k = 5
  · subst hk5
    rw [if_pos rfl] at HR
    clear hk1 hk1b hk4 hk4b
    by_cases ht : t = []
    · subst ht
      by_cases hd : d = []
      · subst hd
        rw [if_neg (by simp)] at HR
        rcases HIH.out with ⟨h1, h2⟩ | ⟨h1, h2⟩
        · rw [if_neg (by rw [h1]; decide)] at HR
          have hq1 : (q == -1) = false := by rw [beq_eq_false_iff_ne]; omega
          clear h1 h2
          go_wp2_with fail
          refine (without_any a n c l s w1 HL1.out (by omega)).mono ?_
          rintro e w2 ⟨v2, rfl, ho2, hb2⟩
          have HO2 := hide (own_baseG ho2 HB1.out.size)
          have HB2 := hide (HB1.out.trans (hb2.mono HB1.out.size))
          clear ho2 hb2
          go_wp2
          go_ret2
          exact .ok HR.out rfl HO2.out HB2.out
        · rw [if_pos h1] at HR
          subst h2
          clear h1
          go_wp2
          go_ret2
          exact .no HR.out rfl HB1.out
      · rw [if_pos (.inr hd)] at HR
        have hd1 : (d == []) = false := by simpa using hd
        have hd2 : (d != []) = true := by simp only [bne, hd1]; rfl
        clear hd
        go_wp2
        go_ret2
        exact .no HR.out rfl HB1.out
    · rw [if_pos (.inl ht)] at HR
      have hd1 : (t == []) = false := by simpa using ht
      have hd2 : (t != []) = true := by simp only [bne, hd1]; rfl
      clear ht
      go_wp2
      go_ret2
      exact .no HR.out rfl HB1.out
  have hk5b : (k == 5) = false := by simpa using hk5
  rw [if_neg hk5] at HR
  clear hk1 hk4 hk5
  go_wp2
  go_ret2
  exact .no HR.out rfl HB1.out
end Go.Proofs.Ytjpmfiicbokdcaa
