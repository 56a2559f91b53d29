/- The walks of the reference's directory and replay. -/
import Derived.Test.YtjpmfiicbokdcaaDdW
namespace Go.Proofs.Ytjpmfiicbokdcaa
open Go.RowKit
set_option linter.unusedVariables false
set_option linter.unusedSimpArgs false
/-- What is asked of the entry i. -/
def okE (n : Nat) (l : List Ent) (i : Nat) (e : Ent) : Prop := vName e.1 = true ∧ 0 ≤ e.2 ∧ e.2 < n ∧ (∀ f, 0 < i → l[i - 1]? = some f → nlt f.1 e.1 = true) ∧ (∀ j f, j < i → l[j]? = some f → f.2 ≠ e.2)
theorem adj_all {l : List Ent} (h : ∀ i e f, 0 < i → l[i]? = some e → l[i - 1]? = some f → nlt f.1 e.1 = true) : ∀ (i j : Nat) (e f : Ent), i < j → l[i]? = some e → l[j]? = some f → nlt e.1 f.1 = true
  | i, 0, e, f, hij, _, _ => absurd hij (by omega)
  | i, j + 1, e, f, hij, he, hf => by
    obtain ⟨g, hg⟩ : ∃ g, l[j]? = some g := ⟨_, List.getElem?_eq_getElem (by have := (List.getElem?_eq_some_iff.1 hf).1; omega)⟩
    have h1 := h (j + 1) f g (by omega) hf (by simpa using hg)
    by_cases hj : i = j
    · subst hj
      rw [he] at hg; injection hg with hg; subst hg; exact h1
    · exact nlt_trans (adj_all h i j e g (by omega) he hg) h1
theorem dirM_iff (n : Nat) (l : List Ent) : dirM n l = true ↔ ∀ i e, l[i]? = some e → okE n l i e := by
  unfold dirM
  simp only [Bool.and_eq_true, decide_eq_true_eq, List.all_eq_true]
  constructor
  · rintro ⟨⟨h1, h2⟩, h3⟩ i e he
    have he' := h1 e (List.mem_of_getElem? he)
    refine ⟨he'.1.1, he'.1.2, he'.2, fun f hi hf => ?_, fun j f hj hf => ?_⟩
    · obtain ⟨a1, rfl⟩ := List.getElem?_eq_some_iff.1 hf
      obtain ⟨a2, rfl⟩ := List.getElem?_eq_some_iff.1 he
      exact List.pairwise_iff_getElem.1 h2 (i - 1) i a1 a2 (by omega)
    · obtain ⟨a1, rfl⟩ := List.getElem?_eq_some_iff.1 hf
      obtain ⟨a2, rfl⟩ := List.getElem?_eq_some_iff.1 he
      exact List.pairwise_iff_getElem.1 h3 j i a1 a2 hj
  · intro h
    refine ⟨⟨fun e he => ?_, ?_⟩, ?_⟩
    · obtain ⟨i, hi, rfl⟩ := List.mem_iff_getElem.1 he
      obtain ⟨h1, h2, h3, -, -⟩ := h i _ (List.getElem?_eq_getElem hi)
      exact ⟨⟨h1, h2⟩, h3⟩
    · rw [List.pairwise_iff_getElem]
      intro i j hi hj hij
      exact adj_all (fun i e f hi he hf => (h i e he).2.2.2.1 f hi hf) i j _ _ hij (List.getElem?_eq_getElem hi) (List.getElem?_eq_getElem hj)
    · rw [List.pairwise_iff_getElem]
      intro i j hi hj hij
      exact (h j _ (List.getElem?_eq_getElem hj)).2.2.2.2 i _ hij (List.getElem?_eq_getElem hi)
theorem dirM_no {n : Nat} {l : List Ent} {i : Nat} {e : Ent} (he : l[i]? = some e) (h : ¬ okE n l i e) : dirM n l = false := by
  rcases hd : dirM n l with _ | _
  · rfl
  · exact absurd ((dirM_iff n l).1 hd i e he) h
set_option maxHeartbeats 8000000 in
set_option maxRecDepth 100000 in
theorem rdirectory_any (a : Option Addr) (n c m : Nat) (l : List Ent) (w : World) (h : RE w a n l) (hn : n ≤ 1000000) (hc : n ≤ c) (hcm : c ≤ maxLen) :
    Calls Try.prog 45 #[.slice a n c, .int .i64 (m : Int)] w fun e w' => e = .returned (.bool (dirM m l)) ∧ Below w.heap.size w w' := by
  have HO := hide h
  have HN := hide h.1
  unfold maxLen at hcm
  obtain ⟨v, hv⟩ : ∃ v, v = dirM m l := ⟨_, rfl⟩
  rw [← hv]
  have HV := hide hv
  clear h hv
  go_enter Try.func45, Try.ntmps45
  go_wp2_with fail
  go_loopw [11] (fun kv wr => ∃ k : Nat, kv = .int .i64 (k : Int) ∧ k ≤ n ∧ Hid (∀ j e, j < k → l[j]? = some e → okE m l j e) ∧ Hid (Below w.heap.size w wr)) (fun kv _ => n - (intOf kv).toNat)
  case atStart => exact ⟨0, rfl, by omega, hide (fun j e h => absurd h (by omega)), hide (bl_refl w)⟩
  case round =>
    obtain ⟨k, rfl, hk, HK, HB⟩ := hrel
    by_cases hlt : k < n
    · obtain ⟨b, o, s, x, rfl, hbl, hx, e0, e1⟩ := (HO.out.below HB.out).at_ hlt
      have hkn : (k : Int) < (n : Int) := by omega
      have HX := hide hx
      obtain ⟨W1, hW1⟩ : ∃ W1, W1 = wr.alloc (.cells #[.string (bstr s), .int .i64 x] 35) := ⟨_, rfl⟩
      have HB1 := hide (show Below w.heap.size w W1 by rw [hW1]; exact bl_alloc HB.out _)
      have c0 : W1.cell? ⟨wr.heap.size, 0, none⟩ = some (.string (bstr s)) := by rw [hW1, cell_of_row _ _ 0 _ _ (0, 0) (heap_alloc_new wr _)]; rfl
      have c1 : W1.cell? ⟨wr.heap.size, 1, none⟩ = some (.int .i64 x) := by rw [hW1, cell_of_row _ _ 1 _ _ (0, 0) (heap_alloc_new wr _)]; rfl
      obtain ⟨gb, hgb⟩ : ∃ gb, gb = wr.heap.size := ⟨_, rfl⟩
      have HPREV := hide (show ∀ k1, 0 < k → k1 = k - 1 → ∃ p y, l[k1]? = some (p, y) ∧ W1.cell? ⟨b, o + k1 * 2, none⟩ = some (.string (bstr p)) from fun k1 h0 h1 => by
        obtain ⟨b', o', p, y, ha, -, hp, q0, -⟩ := (HO.out.below HB1.out).at_ (k := k1) (by omega)
        injection ha with ha
        injection ha with q1 q2
        subst q1 q2
        exact ⟨p, y, hp, q0⟩)
      obtain ⟨vn, hvn⟩ : ∃ vn, vn = vName s := ⟨_, rfl⟩
      have HVN := hide hvn
      have HVC := hide (fun (wx : World) => rvname_any s wx)
      rw [← hvn] at HVC
      have HC0 := hide (And.intro c0 c1)
      rw [← hgb] at HC0
      clear hx hvn c0 c1
      go_wp2_with fail
      rw [← hW1, ← hgb]
      have HGB := hide hgb
      clear hW1 e0 e1 hgb
      obtain ⟨c0, c1⟩ := HC0.out
      have f0 : ∀ wx, CB W1.drew wx → wx.cell? ⟨gb, 0, none⟩ = some (.string (bstr s)) := fun wx h => h.cell c0
      have f1 : ∀ wx, CB W1.drew wx → wx.cell? ⟨gb, 1, none⟩ = some (.int .i64 x) := fun wx h => h.cell c1
      clear c0 c1
      cases vn with
      | false =>
        have hr : v = false := by rw [HV.out]; exact dirM_no HX.out (fun h => by have := h.1; rw [← HVN.out] at this; cases this)
        refine wp_region_K 30 (by kernel_rfl) (by kernel_rfl) (fun Q HQ => ?_)
        simp only [List.take_succ_cons, List.take_zero, List.map_cons, List.map_nil]
        repeat
          first
          | (refine wpS_skip (b := true) rfl (guard_mk rfl rfl) ?_)
          | (refine wpS_skip (b := false) rfl (guard_mk rfl rfl) ?_)
          | (refine wpS_skipU rfl (guardU_mk rfl rfl) ?_)
          | (first | apply wpS_c rfl | apply wpS_gc rfl (guard_mk rfl rfl)
             focus
               intro ev wx hC hx
               (try simp [Op.operands, Call.operands, opndS, Slot.holds] at hx)
               go_simp
               try (first | exact rfl | exact ⟨Below.refl _ _, rfl⟩ | (go_at_call 68; refine (HVC.out _).mono ?_; rintro e w' ⟨rfl, rfl⟩; exact ⟨rfl, Below.refl _ _⟩))
               done)
          dsimp only [setS, List.set]
        refine wpS_nil (HQ _ fun w3 hC3 => ?_)
        simp only [closeS, List.drop_succ_cons, List.drop_zero, List.drop_nil]
        have HB3 := hide (HB1.out.trans (hC3.below.mono HB1.out.size))
        have HC3 := hide hC3.below
        clear HQ hC3
        subst hr
        go_wp2
        go_ret
        exact ⟨rfl, HB3.out⟩
      | true =>
        by_cases hx0 : x < 0
        · have hr : v = false := by rw [HV.out]; exact dirM_no HX.out (fun h => by have := h.2.1; omega)
          refine wp_region_K 30 (by kernel_rfl) (by kernel_rfl) (fun Q HQ => ?_)
          simp only [List.take_succ_cons, List.take_zero, List.map_cons, List.map_nil]
          repeat
            first
            | (refine wpS_skip (b := true) rfl (guard_mk rfl rfl) ?_)
            | (refine wpS_skip (b := false) rfl (guard_mk rfl rfl) ?_)
            | (refine wpS_skipU rfl (guardU_mk rfl rfl) ?_)
            | (first | apply wpS_c rfl | apply wpS_gc rfl (guard_mk rfl rfl)
               focus
                 intro ev wx hC hx
                 (try simp [Op.operands, Call.operands, opndS, Slot.holds] at hx)
                 go_simp
                 try (first | exact rfl | exact ⟨Below.refl _ _, rfl⟩ | (go_at_call 68; refine (HVC.out _).mono ?_; rintro e w' ⟨rfl, rfl⟩; exact ⟨rfl, Below.refl _ _⟩))
                 done)
            dsimp only [setS, List.set]
          refine wpS_nil (HQ _ fun w3 hC3 => ?_)
          simp only [closeS, List.drop_succ_cons, List.drop_zero, List.drop_nil]
          have HB3 := hide (HB1.out.trans (hC3.below.mono HB1.out.size))
          have HC3 := hide hC3.below
          clear HQ hC3
          subst hr
          go_wp2
          go_ret
          exact ⟨rfl, HB3.out⟩
        by_cases hxm : (m : Int) ≤ x
        · have hr : v = false := by rw [HV.out]; exact dirM_no HX.out (fun h => by have := h.2.2.1; omega)
          refine wp_region_K 30 (by kernel_rfl) (by kernel_rfl) (fun Q HQ => ?_)
          simp only [List.take_succ_cons, List.take_zero, List.map_cons, List.map_nil]
          repeat
            first
            | (refine wpS_skip (b := true) rfl (guard_mk rfl rfl) ?_)
            | (refine wpS_skip (b := false) rfl (guard_mk rfl rfl) ?_)
            | (refine wpS_skipU rfl (guardU_mk rfl rfl) ?_)
            | (first | apply wpS_c rfl | apply wpS_gc rfl (guard_mk rfl rfl)
               focus
                 intro ev wx hC hx
                 (try simp [Op.operands, Call.operands, opndS, Slot.holds] at hx)
                 go_simp
                 try (first | exact rfl | exact ⟨Below.refl _ _, rfl⟩ | (go_at_call 68; refine (HVC.out _).mono ?_; rintro e w' ⟨rfl, rfl⟩; exact ⟨rfl, Below.refl _ _⟩))
                 done)
            dsimp only [setS, List.set]
          refine wpS_nil (HQ _ fun w3 hC3 => ?_)
          simp only [closeS, List.drop_succ_cons, List.drop_zero, List.drop_nil]
          have HB3 := hide (HB1.out.trans (hC3.below.mono HB1.out.size))
          have HC3 := hide hC3.below
          clear HQ hC3
          subst hr
          go_wp2
          go_ret
          exact ⟨rfl, HB3.out⟩
        have HEL := hide (HC0.out)
        by_cases hk0 : k = 0
        · have hk0' : ¬ (0 : Int) < (k : Int) := by omega
          refine wp_region_K 30 (by kernel_rfl) (by kernel_rfl) (fun Q HQ => ?_)
          simp only [List.take_succ_cons, List.take_zero, List.map_cons, List.map_nil]
          repeat
            first
            | (refine wpS_skip (b := true) rfl (guard_mk rfl rfl) ?_)
            | (refine wpS_skip (b := false) rfl (guard_mk rfl rfl) ?_)
            | (refine wpS_skipU rfl (guardU_mk rfl rfl) ?_)
            | (first | apply wpS_c rfl | apply wpS_gc rfl (guard_mk rfl rfl)
               focus
                 intro ev wx hC hx
                 (try simp [Op.operands, Call.operands, opndS, Slot.holds] at hx)
                 go_simp
                 try (first | exact rfl | exact ⟨Below.refl _ _, rfl⟩ | (go_at_call 68; refine (HVC.out _).mono ?_; rintro e w' ⟨rfl, rfl⟩; exact ⟨rfl, Below.refl _ _⟩))
                 done)
            dsimp only [setS, List.set]
          refine wpS_nil (HQ _ fun w3 hC3 => ?_)
          simp only [closeS, List.drop_succ_cons, List.drop_zero, List.drop_nil]
          have HB3 := hide (HB1.out.trans (hC3.below.mono HB1.out.size))
          have HC3 := hide hC3.below
          clear HQ hC3
          have HP0 := hide (show ∀ j f, j < 0 → l[j]? = some f → f.2 ≠ x from fun j f h => absurd h (by omega))
          have d0 : w3.cell? ⟨gb, 0, none⟩ = some (.string (bstr s)) := (HC3.out.cell (lt_heap HEL.out.1)).trans HEL.out.1
          have d1 : w3.cell? ⟨gb, 1, none⟩ = some (.int .i64 x) := (HC3.out.cell (lt_heap HEL.out.2)).trans HEL.out.2
          have HD := hide (And.intro d0 d1)
          have hkc : (k : Int) ≤ (c : Int) := by omega
          have HR3 := hide (bl_refl w3)
          clear d0 d1 f0 f1
          go_wp2_with fail
          go_loopw [50] (fun jv wr => ∃ j : Nat, jv = .int .i64 (j : Int) ∧ j ≤ k ∧ Hid (∀ i f, i < j → l[i]? = some f → f.2 ≠ x) ∧ Hid (Below w3.heap.size w3 wr)) (fun jv _ => k - (intOf jv).toNat)
          case atStart => exact ⟨0, rfl, by omega, HP0, HR3⟩
          case round =>
            obtain ⟨j, rfl, hj, HJ, HQ3⟩ := hrel
            have HBQ := hide (HB3.out.trans (HQ3.out.mono HB3.out.size))
            have d1 : wr.cell? ⟨gb, 1, none⟩ = some (.int .i64 x) := (HQ3.out.cell (lt_heap HD.out.2)).trans HD.out.2
            have hgl := lt_heap d1
            by_cases hjk : j < k
            · obtain ⟨b', o', t, y, ha, hbl', hy, g0, g1⟩ := (HO.out.below HBQ.out).at_ (k := j) (by omega)
              injection ha with ha
              injection ha with q1 q2
              subst q1 q2
              have hjk' : (j : Int) < (k : Int) := by omega
              have HY := hide hy
              have HBN := hide (bl_alloc HBQ.out (.cells #[.string (bstr t), .int .i64 y] 35))
              have HQN := hide (bl_alloc HQ3.out (.cells #[.string (bstr t), .int .i64 y] 35))
              have d1' : (wr.alloc (.cells #[.string (bstr t), .int .i64 y] 35)).cell? ⟨gb, 1, none⟩ = some (.int .i64 x) := (Below.cell (bl_alloc (bl_refl wr) _) hgl).trans d1
              have hne : gb ≠ wr.heap.size := by have : gb < wr.heap.size := hgl; omega
              clear hy hbl'
              by_cases hyx : y = x
              · have hr : v = false := by rw [HV.out]; exact dirM_no HX.out (fun h => h.2.2.2.2 j _ hjk HY.out hyx)
                subst hr
                have hyx' : (y == x) = true := by simpa using hyx
                clear hyx
                go_wp2
                all_goals go_ret
                all_goals exact ⟨rfl, HBN.out⟩
              · have HJ2 := hide (show ∀ i f, i < j + 1 → l[i]? = some f → f.2 ≠ x from fun i f hi hf => by
                  by_cases hij : i = j
                  · rw [hij, HY.out] at hf; injection hf with hf; subst hf; exact hyx
                  · exact HJ.out i f (by omega) hf)
                have hyx' : (y == x) = false := by simpa using hyx
                clear hyx
                go_wp2
                all_goals go_roundw
                all_goals first
                | exact ⟨j + 1, by go_num, by omega, HJ2, HQN⟩
                | (simp [intOf]; omega)
            · obtain rfl : j = k := by omega
              have hjk' : ¬ (j : Int) < (j : Int) := by omega
              have HK2 := hide (show ∀ i e, i < j + 1 → l[i]? = some e → okE m l i e from fun i e hi he => by
                by_cases hij : i = j
                · subst hij
                  rw [HX.out] at he; injection he with he; subst he
                  exact ⟨HVN.out.symm, by simp only []; omega, by simp only []; omega, fun f h0 => absurd h0 (by omega), HJ.out⟩
                · exact HK.out i e (by omega) he)
              go_wp2
              go_roundw
              case rel => exact ⟨j + 1, by go_num, by omega, HK2, HBQ⟩
              case measure => simp [intOf]; omega
        · have hk0' : (0 : Int) < (k : Int) := by omega
          have hk0n : 0 < k := by omega
          obtain ⟨k1, hk1⟩ : ∃ k1, k1 = k - 1 := ⟨_, rfl⟩
          obtain ⟨p, y, hp, q0⟩ := HPREV.out k1 (by omega) hk1
          have ek1 : (k : Int) - 1 = (k1 : Int) := by omega
          have ew1 : IntKind.i64.wrap (k1 : Int) = (k1 : Int) := by rw [IntKind.wrap_i64]; omega
          have hk1n : (k1 : Int) < (n : Int) := by omega
          have HKP := hide (And.intro hk1 hp)
          have f2 : ∀ wx, CB W1.drew wx → wx.cell? ⟨b, o + k1 * 2, none⟩ = some (.string (bstr p)) := fun wx h => h.cell q0
          obtain ⟨r, hr⟩ : ∃ r, r = Op.bytesLess p s := ⟨_, rfl⟩
          have hr' := hr.symm
          have HRE := hide (show nlt p s = r from hr.symm)
          clear hr hp hk1 q0 hk0
          cases r with
          | false =>
            have hr : v = false := by rw [HV.out]; exact dirM_no HX.out (fun h => by have := h.2.2.2.1 _ (by omega) (by rw [← HKP.out.1]; exact HKP.out.2); rw [HRE.out] at this; cases this)
            refine wp_region_K 30 (by kernel_rfl) (by kernel_rfl) (fun Q HQ => ?_)
            simp only [List.take_succ_cons, List.take_zero, List.map_cons, List.map_nil]
            repeat
              first
              | (refine wpS_skip (b := true) rfl (guard_mk rfl rfl) ?_)
              | (refine wpS_skip (b := false) rfl (guard_mk rfl rfl) ?_)
              | (refine wpS_skipU rfl (guardU_mk rfl rfl) ?_)
              | (first | apply wpS_c rfl | apply wpS_gc rfl (guard_mk rfl rfl)
                 focus
                   intro ev wx hC hx
                   (try simp [Op.operands, Call.operands, opndS, Slot.holds] at hx)
                   go_simp
                   try (first | exact rfl | exact ⟨Below.refl _ _, rfl⟩ | (go_at_call 68; refine (HVC.out _).mono ?_; rintro e w' ⟨rfl, rfl⟩; exact ⟨rfl, Below.refl _ _⟩))
                   done)
              dsimp only [setS, List.set]
            refine wpS_nil (HQ _ fun w3 hC3 => ?_)
            simp only [closeS, List.drop_succ_cons, List.drop_zero, List.drop_nil]
            have HB3 := hide (HB1.out.trans (hC3.below.mono HB1.out.size))
            have HC3 := hide hC3.below
            clear HQ hC3
            subst hr
            go_wp2
            go_ret
            exact ⟨rfl, HB3.out⟩
          | true =>
            refine wp_region_K 30 (by kernel_rfl) (by kernel_rfl) (fun Q HQ => ?_)
            simp only [List.take_succ_cons, List.take_zero, List.map_cons, List.map_nil]
            repeat
              first
              | (refine wpS_skip (b := true) rfl (guard_mk rfl rfl) ?_)
              | (refine wpS_skip (b := false) rfl (guard_mk rfl rfl) ?_)
              | (refine wpS_skipU rfl (guardU_mk rfl rfl) ?_)
              | (first | apply wpS_c rfl | apply wpS_gc rfl (guard_mk rfl rfl)
                 focus
                   intro ev wx hC hx
                   (try simp [Op.operands, Call.operands, opndS, Slot.holds] at hx)
                   go_simp
                   try (first | exact rfl | exact ⟨Below.refl _ _, rfl⟩ | (go_at_call 68; refine (HVC.out _).mono ?_; rintro e w' ⟨rfl, rfl⟩; exact ⟨rfl, Below.refl _ _⟩))
                   done)
              dsimp only [setS, List.set]
            refine wpS_nil (HQ _ fun w3 hC3 => ?_)
            simp only [closeS, List.drop_succ_cons, List.drop_zero, List.drop_nil]
            have HB3 := hide (HB1.out.trans (hC3.below.mono HB1.out.size))
            have HC3 := hide hC3.below
            clear HQ hC3
            clear f2 hr' ek1 ew1
            have HP0 := hide (show ∀ j f, j < 0 → l[j]? = some f → f.2 ≠ x from fun j f h => absurd h (by omega))
            have d0 : w3.cell? ⟨gb, 0, none⟩ = some (.string (bstr s)) := (HC3.out.cell (lt_heap HEL.out.1)).trans HEL.out.1
            have d1 : w3.cell? ⟨gb, 1, none⟩ = some (.int .i64 x) := (HC3.out.cell (lt_heap HEL.out.2)).trans HEL.out.2
            have HD := hide (And.intro d0 d1)
            have hkc : (k : Int) ≤ (c : Int) := by omega
            have HR3 := hide (bl_refl w3)
            clear d0 d1 f0 f1
            go_wp2_with fail
            go_loopw [50] (fun jv wr => ∃ j : Nat, jv = .int .i64 (j : Int) ∧ j ≤ k ∧ Hid (∀ i f, i < j → l[i]? = some f → f.2 ≠ x) ∧ Hid (Below w3.heap.size w3 wr)) (fun jv _ => k - (intOf jv).toNat)
            case atStart => exact ⟨0, rfl, by omega, HP0, HR3⟩
            case round =>
              obtain ⟨j, rfl, hj, HJ, HQ3⟩ := hrel
              have HBQ := hide (HB3.out.trans (HQ3.out.mono HB3.out.size))
              have d1 : wr.cell? ⟨gb, 1, none⟩ = some (.int .i64 x) := (HQ3.out.cell (lt_heap HD.out.2)).trans HD.out.2
              have hgl := lt_heap d1
              by_cases hjk : j < k
              · obtain ⟨b', o', t, y, ha, hbl', hy, g0, g1⟩ := (HO.out.below HBQ.out).at_ (k := j) (by omega)
                injection ha with ha
                injection ha with q1 q2
                subst q1 q2
                have hjk' : (j : Int) < (k : Int) := by omega
                have HY := hide hy
                have HBN := hide (bl_alloc HBQ.out (.cells #[.string (bstr t), .int .i64 y] 35))
                have HQN := hide (bl_alloc HQ3.out (.cells #[.string (bstr t), .int .i64 y] 35))
                have d1' : (wr.alloc (.cells #[.string (bstr t), .int .i64 y] 35)).cell? ⟨gb, 1, none⟩ = some (.int .i64 x) := (Below.cell (bl_alloc (bl_refl wr) _) hgl).trans d1
                have hne : gb ≠ wr.heap.size := by have : gb < wr.heap.size := hgl; omega
                clear hy hbl'
                by_cases hyx : y = x
                · have hr : v = false := by rw [HV.out]; exact dirM_no HX.out (fun h => h.2.2.2.2 j _ hjk HY.out hyx)
                  subst hr
                  have hyx' : (y == x) = true := by simpa using hyx
                  clear hyx
                  go_wp2
                  all_goals go_ret
                  all_goals exact ⟨rfl, HBN.out⟩
                · have HJ2 := hide (show ∀ i f, i < j + 1 → l[i]? = some f → f.2 ≠ x from fun i f hi hf => by
                    by_cases hij : i = j
                    · rw [hij, HY.out] at hf; injection hf with hf; subst hf; exact hyx
                    · exact HJ.out i f (by omega) hf)
                  have hyx' : (y == x) = false := by simpa using hyx
                  clear hyx
                  go_wp2
                  all_goals go_roundw
                  all_goals first
                  | exact ⟨j + 1, by go_num, by omega, HJ2, HQN⟩
                  | (simp [intOf]; omega)
              · obtain rfl : j = k := by omega
                have hjk' : ¬ (j : Int) < (j : Int) := by omega
                have HK2 := hide (show ∀ i e, i < j + 1 → l[i]? = some e → okE m l i e from fun i e hi he => by
                  by_cases hij : i = j
                  · subst hij
                    rw [HX.out] at he; injection he with he; subst he
                    exact ⟨HVN.out.symm, by simp only []; omega, by simp only []; omega, (fun f _ hf => by rw [← HKP.out.1, HKP.out.2] at hf; injection hf with hf; subst hf; exact HRE.out), HJ.out⟩
                  · exact HK.out i e (by omega) he)
                go_wp2
                go_roundw
                case rel => exact ⟨j + 1, by go_num, by omega, HK2, HBQ⟩
                case measure => simp [intOf]; omega
    · obtain rfl : k = n := by omega
      have hkn : ¬ (k : Int) < (k : Int) := by omega
      have hr : v = true := by rw [HV.out]; exact (dirM_iff m l).2 (fun i e he => HK.out i e (by rw [HN.out]; exact (List.getElem?_eq_some_iff.1 he).1) he)
      subst hr
      go_wp2
      go_ret
      exact ⟨rfl, HB.out⟩
end Go.Proofs.Ytjpmfiicbokdcaa
