/- The walk of the journal's Scan. -/
import Derived.Test.YthkncfenhfieoaaJIterW
namespace Go.Proofs.Ythkncfenhfieoaa
open Go.RowKit Go.Shelf
set_option linter.unusedVariables false
set_option linter.unusedSimpArgs false
attribute [local go_sem] Oper.semAt_some
theorem info_rec : (Try.prog.info? 37).map (fun i => (i.zero, i.size, i.bytes)) = some (some (.agg #[.int .i64 0, .string ⟨#[]⟩]), 2, 24) := by kernel_rfl
theorem exists_scan : ∀ (n : Nat) (s : List UInt8), s.length ≤ n → ∃ l rest, IsScan s l rest
  | 0, s, h => by
    obtain rfl : s = [] := List.eq_nil_of_length_eq_zero (by omega)
    exact ⟨[], [], rfl, by simp, rfl⟩
  | n + 1, s, h => by
    cases hn : nextM s with
    | none => exact ⟨[], s, rfl, by simp, hn⟩
    | some r =>
      obtain ⟨hok, t, rfl⟩ := nextM_some hn
      rw [List.length_append, encR_length] at h
      obtain ⟨l, rest, hs⟩ := exists_scan n t (by omega)
      exact ⟨r :: l, rest, by rw [encL_cons, List.append_assoc, ← hs.eq], fun q hq => by
        rcases List.mem_cons.1 hq with rfl | hq
        · exact hok
        · exact hs.ok q hq, hs.stop⟩
def lastE (pre : List (Nat × Rec)) : Nat := (pre.getLast?.map (·.1)).getD 0
theorem lastE_snoc (pre : List (Nat × Rec)) (x : Nat × Rec) : lastE (pre ++ [x]) = x.1 := by simp [lastE]
theorem lastE_all : ∀ (l : List Rec), lastE (wE 0 l) = (encL l).length := by
  intro l
  rcases List.eq_nil_or_concat l with rfl | ⟨l, r, rfl⟩
  · rfl
  · rw [List.concat_eq_append, wE_snoc, lastE_snoc, encL_snoc, List.length_append, encR_length, Nat.zero_add]
set_option maxHeartbeats 2000000 in
set_option maxRecDepth 100000 in
theorem scan_any (S : ByteArray) (s : List UInt8) (recs : List Rec) (rest : List UInt8) (w : World) (hS : S = bstr s) (hs : s.length ≤ 100000) (hsc : IsScan s recs rest) :
    Calls Try.prog 14 #[.string S] w fun e w' => ∃ v, e = .returned (.tuple #[v, .int .i64 (((encL recs).length : Nat) : Int), .int .i64 ((stateM rest : Nat) : Int)]) ∧ w'.ownsRow w.heap.size 37 2 v recs.length (recs.flatMap recC) ∧ Below w.heap.size w w' := by
  obtain ⟨i0, hi0, hz0, hz1, hz2⟩ := info_parts info_rec
  have HS := hide hS
  have HL := hide hs
  have HSC := hide hsc
  clear hS hs hsc
  refine (callsIn_wide (n := 5)).1 ?_
  refine callsIn_of_wp_marks Try.func14 rfl trivial ?_ rfl
  simp only [Try.ntmps14, List.size_toArray, List.length_cons, List.length_nil, Nat.reduceAdd, Nat.reduceSub, Array.replicate_succ, Array.replicate_zero, List.push_toArray, List.append_toArray, List.nil_append, List.cons_append]
  refine wpIn_wide.2 ?_
  go_wp2_with fail
  refine (records_any S _).mono ?_
  rintro e w' ⟨rfl, rfl⟩
  go_wp2_with fail
  have bO := ((Boxed.new w 26 (.slice none 0 0)).alloc (.cells #[.int .i64 0] 3)).alloc (.cells #[.string S] 9)
  have bA := (Boxed.new (w.alloc (.cells #[.slice none 0 0] 26)) 3 (.int .i64 0)).alloc (.cells #[.string S] 9)
  have bN := Boxed.new ((w.alloc (.cells #[.slice none 0 0] 26)).alloc (.cells #[.int .i64 0] 3)) 9 (.string S)
  simp only [World.size_alloc] at bA bN
  have hB0 : Below w.heap.size w (((w.alloc (.cells #[.slice none 0 0] 26)).alloc (.cells #[.int .i64 0] 3)).alloc (.cells #[.string S] 9)) := bl_alloc (bl_alloc (bl_alloc (bl_refl w) _) _) _
  have hsz : (((w.alloc (.cells #[.slice none 0 0] 26)).alloc (.cells #[.int .i64 0] 3)).alloc (.cells #[.string S] 9)).heap.size = w.heap.size + 3 := by simp
  obtain ⟨W0, hW0⟩ : ∃ W0, ((w.alloc (.cells #[.slice none 0 0] 26)).alloc (.cells #[.int .i64 0] 3)).alloc (.cells #[.string S] 9) = W0 := ⟨_, rfl⟩
  rw [hW0] at bO bA bN hB0 hsz ⊢
  clear hW0
  have hrl : recs.length ≤ 100000 := by
    have h1 := congrArg List.length HSC.out.eq
    have h2 : ∀ l : List Rec, l.length ≤ (encL l).length := fun l => by
      induction l with
      | nil => simp
      | cons q l ih => rw [encL_cons, List.length_append, encR_length, List.length_cons]; omega
    have h3 := h2 recs
    have h4 := HL.out
    rw [List.length_append] at h1
    omega
  have HRL := hide hrl
  clear hrl
  refine (wpIn_wide (n := 5)).1 ?_
  refine wpIn_rangeFunc_ownH rfl (by omega) (gf := 45) (lb := #[.pointer (some ⟨w.heap.size + 1 + 1, 0, none⟩)]) rfl trivial (enters_of Try.func45 (by kernel_rfl) rfl)
    (iter_stops (5 - 1) (by omega) (w.heap.size + 1 + 1) w.heap.size S s recs rest HS.out HL.out HSC.out W0 bN.cell) kpJ_t (kpJ_b (by omega)) (Below.refl _ _) (fun _ => rfl)
    (fun pre W => ((∃ v, Boxed W w.heap.size 26 v ∧ W.ownsRow w.heap.size 37 2 v pre.length ((pre.map (·.2)).flatMap recC) ∧ True) ∧ (Boxed W (w.heap.size + 1) 3 (.int .i64 ((lastE pre : Nat) : Int)) ∧ Boxed W (w.heap.size + 1 + 1) 9 (.string S))) ∧ Below w.heap.size w W)
    (fun _ _ _ => False)
    (OwnFrom.and (OwnFrom.and (Own.from (holdsRow_own w.heap.size w.heap.size 26 37 2 (fun pre : List (Nat × Rec) => pre.length) (fun pre : List (Nat × Rec) => (pre.map (·.2)).flatMap recC) (fun _ _ => True)) _) (OwnFrom.and (Own.from (boxed_own (w.heap.size + 1) 3 (fun pre : List (Nat × Rec) => .int .i64 ((lastE pre : Nat) : Int))) _) (Own.from (boxed_own (w.heap.size + 1 + 1) 9 (fun _ : List (Nat × Rec) => .string S)) _))) (ownFrom_below (Nat.le_refl _) (by omega)))
    (fun _ _ _ _ _ hs _ _ => hs)
    ⟨⟨⟨_, bO, World.ownsRow_nil _ _ _ _, trivial⟩, bA, bN⟩, hB0⟩
    (fun x a' W => ∃ Bx, w.heap.size + 2 < Bx ∧ W.heap[Bx]? = some (.cells #[.int .i64 x.2.1, .string (bstr x.2.2)] 37 (0, 0)) ∧ a' = { tmps := #[.string S, undef, .slice none 0 0, .int .i64 0, .int .i64 0, .pointer (some ⟨w.heap.size, 0, none⟩), .pointer (some ⟨w.heap.size + 1, 0, none⟩), .int .i64 (x.1 : Int), .pointer (some ⟨Bx, 0, none⟩), undef, .string S, .func (.func 45) #[] #[.pointer (some ⟨w.heap.size + 1 + 1, 0, none⟩)], .int .i64 (x.1 : Int), recV x.2, undef, undef, undef, undef, undef, undef, undef, undef, undef, undef, undef, undef, undef, undef, undef, undef, undef, undef, undef, undef, undef, undef, undef, undef, undef, undef, undef, undef, undef, undef, undef, undef, undef, undef, undef, undef, undef, undef], defers := [] })
    (fun x a' _ X Y row hs hg hr => by
      obtain ⟨Bx, h1, h2, h3⟩ := hs
      refine ⟨Bx, h1, (hg.block Bx (Array.getElem?_eq_some_iff.1 h2).1 (fun e => ?_)).trans h2, h3⟩
      obtain ⟨_, o, ho, hc⟩ := hr Bx e.symm
      rw [h2] at ho; cases ho; cases hc)
    ?assign ?body ?done ?stop
  case assign =>
    rintro l pre ⟨e, k, p⟩ W K ⟨⟨⟨v, hv, hrow, -⟩, bA1, bN1⟩, hB1⟩ hK
    have hlt := bN1.lt
    unfold encX recV at *
    gi_wp2
    refine hK _ _ ((KeepsOthers.alloc _ _).from _) ⟨(Below.refl _ W).alloc hB1.size _, fun u hu => ?_⟩ ⟨⟨⟨v, hv.alloc _, hrow.alloc _, trivial⟩, bA1.alloc _, bN1.alloc _⟩, hB1.alloc hB1.size _⟩ ⟨W.heap.size, by omega, World.alloc_heap_new W _, rfl⟩
    exact ((bl_alloc (bl_refl W) _).cell (lt_heap hu)).trans hu
  case body =>
    rintro l pre ⟨e, k, p⟩ a' W hl ⟨r, hr⟩ ⟨⟨⟨v, hv, hrow, -⟩, bA1, bN1⟩, hB1⟩ ⟨Bx, hBx, hcx, rfl⟩ hlt
    have hc := hv.cell
    have cx0 : W.cell? ⟨Bx, 0, none⟩ = some (.int .i64 k) := cell_of_row W _ 0 _ _ _ hcx
    have cx1 : W.cell? ⟨Bx, 1, none⟩ = some (.string (bstr p)) := cell_of_row W _ 1 _ _ _ hcx
    have hpl : pre.length ≤ 100000 := by have := HRL.out; omega
    have hcell : ∀ j u, (recC (k, p))[j]? = some u → (W.alloc (.cells #[.int .i64 k, .string (bstr p)] 37)).cell? ((⟨W.heap.size, 0, none⟩ : Addr).add j) = some u := fun j u hj => by
      rw [Addr.add_lit, Nat.zero_add, cell_of_row _ _ j _ _ (0, 0) (heap_alloc_new W _)]
      simpa [recC] using hj
    have hnb : some (w.heap.size + 1 + 1) ≠ v.ownBlock := bN1.not_row (by decide) hrow
    gi_wp2_with (gi_at_builtin; go_loud (refine wpListIn_append_own _ rfl _ _ 26 rfl w.heap.size 37 i0 (.agg #[.int .i64 0, .string ⟨#[]⟩]) 2 24 Try.underlying26 hi0 hz0 hz1 hz2 rfl (by decide) _ _ _ rfl (hrow.alloc _) ⟨W.heap.size, 0, none⟩ 1 1 (recC (k, p)) rfl rfl hcell (by simp [recC, Value.oneCell']) (by simp only [maxLen]; omega) (by omega) (by have := hB1.size; simp; omega) ?_); intro v' w1 hown' hgrow _; obtain ⟨g', cap', rfl⟩ := ownsRow_succ hown'; obtain ⟨hv1, hv2, hr2, hk2, hb2⟩ := hv.appended (by decide) hrow hB1.size (Nat.le_refl _) hown' hgrow; have hc1 := hv1.cell; have hf1 := hv1.frozen; have bA2 : Boxed (w1.setCell ⟨w.heap.size, 0, none⟩ (.slice (some ⟨g', 0, none⟩) (pre.length + 1) cap')) (w.heap.size + 1) 3 (.int .i64 ((lastE pre : Nat) : Int)) := ((bA1.alloc _).kept hgrow (bA1.not_row (by decide) hrow)).other (by omega) _; have bN2 : Boxed (w1.setCell ⟨w.heap.size, 0, none⟩ (.slice (some ⟨g', 0, none⟩) (pre.length + 1) cap')) (w.heap.size + 1 + 1) 9 (.string S) := ((bN1.alloc _).kept hgrow hnb).other (by omega) _; have hcA := bA2.cell; have hfA := bA2.frozen)
    have hle1 : w.heap.size ≤ w.heap.size + 1 := by omega
    have bN3 := bN2.other (B' := w.heap.size + 1) (by omega) (.int .i64 (e : Int))
    refine ⟨(hk2.trans (KeepsOthers.setCell _ _ _)).from _, ⟨hb2.setCell (p := ⟨w.heap.size + 1, 0, none⟩) hle1 _, fun u hu => ?_⟩, ⟨⟨_, hv2.other (by omega) _, ?_⟩, ?_, bN3⟩, hB1.trans (hb2.setCell (p := ⟨w.heap.size + 1, 0, none⟩) hle1 _)⟩
    · rw [bN1.cell] at hu
      rw [bN3.cell]; exact hu
    · have h3 := hr2.kept (grownBy_setCell' _ (w.heap.size + 1) (.int .i64 (e : Int))) (.inr (bA2.not_row (by decide) hr2).symm)
      simp only [List.length_append, List.map_append, List.flatMap_append, List.length_cons, List.length_nil, List.map_cons, List.map_nil, List.flatMap_cons, List.flatMap_nil, List.append_nil, Nat.zero_add]
      exact h3
    · rw [lastE_snoc]
      exact bA2.set _
  case done =>
    rintro D ys W hD rfl ⟨⟨⟨v, hv, hrow, -⟩, bA1, bN1⟩, hB1⟩ hK
    rw [wE_length, wE_snd] at hrow
    rw [lastE_all] at bA1
    have hcO := hv.cell
    have hcA := bA1.cell
    obtain ⟨a, ha⟩ : ∃ a, a = (encL recs).length := ⟨_, rfl⟩
    rw [← ha] at hcA
    obtain ⟨m, hm⟩ : ∃ m, m = s.length := ⟨_, rfl⟩
    have hSm : S.size = m := by rw [hm]; exact str_size HS.out
    have hlen := congrArg List.length HSC.out.eq
    rw [List.length_append, ← ha, ← hm] at hlen
    have ham : (a : Int) ≤ (m : Int) := by omega
    have hdrop : s.drop a = rest := by rw [HSC.out.eq, ha, List.drop_left]
    obtain ⟨X, hX⟩ : ∃ X, X = S.extract a m := ⟨_, rfl⟩
    have hXs : X = bstr rest := by rw [hX, str_sub HS.out, List.take_of_length_le (by rw [hm]; exact Nat.le_refl _), hdrop]
    have hX' := hX.symm
    have HXS := hide hXs
    have HAA := hide ha
    have HLEN := hide hlen
    have HROW := hide hrow
    have HMM := hide hm
    clear hX hXs hdrop ha hlen hrow hm
    have hwD : w.heap.size ≤ D := by omega
    by_cases hr0 : rest = []
    · have hx0 : X = bstr [] := by rw [HXS.out, hr0]
      subst hx0
      have hst : stateM rest = 0 := by unfold stateM; rw [if_pos hr0]
      have HST := hide hst
      clear hst hr0
      go_wp2_with fail
      refine wp_region_K 3 (by kernel_rfl) (by kernel_rfl) (fun Q HQ => ?_)
      simp only [List.take_succ_cons, List.take_zero, List.map_cons, List.map_nil]
      have f0 : ∀ wx, CB W.drew wx → wx.cell? ⟨w.heap.size, 0, none⟩ = some v := fun wx h => h.cell hcO
      have f1 : ∀ wx, CB W.drew wx → wx.cell? ⟨w.heap.size + 1, 0, none⟩ = some (.int .i64 (a : Int)) := fun wx h => h.cell hcA
      repeat
        first | apply wpS_c rfl | apply wpS_gc rfl (guard_mk rfl rfl)
        focus
          intro ev wx hC hx
          (try simp [Op.operands, Call.operands, opndS, Slot.holds] at hx)
          go_simp
          try (first | exact rfl | exact ⟨Below.refl _ _, rfl⟩)
          done
        dsimp only [setS, List.set]
      refine wpS_nil (HQ _ fun W4 hC4 => ?_)
      simp only [closeS, List.drop_succ_cons, List.drop_zero, List.drop_nil]
      clear HQ f0 f1
      have hb4 : Below W.heap.size W W4 := hC4.below
      have HROW4 := hide (HROW.out.kept (row := none) (below_grow hb4) (by cases v.ownBlock <;> simp))
      have HK4 := hide ((hb4.block D (Array.getElem?_eq_some_iff.1 hK).1).trans hK)
      have hB4 : Below w.heap.size w W4 := hB1.trans (hb4.mono hB1.size)
      go_wp2
      refine ⟨by simp, .inl ⟨_, _, rfl, run_takeDeferred HK4.out, ?_⟩⟩
      exact ⟨_, results_tmp3 rfl _ _ _, v, by rw [HAA.out, HST.out]; rfl, ownsRow_putObj HROW4.out _ HK4.out rfl, hB4.trans (belowK_b (w := w) (Nat.le_refl _) W4 D _ _ (by omega) HK4.out rfl rfl)⟩
    obtain ⟨n, hn⟩ : ∃ n, n = rest.length := ⟨_, rfl⟩
    have hXn : X.size = n := by rw [hn]; exact str_size HXS.out
    have hxl : X.toList = rest := by rw [HXS.out, bstr_toList]
    have hne : (X.toList == []) = false := by rw [hxl]; simpa using hr0
    have hn1 : 1 ≤ n := by
      rcases Nat.eq_zero_or_pos n with h | h
      · exact absurd (List.eq_nil_of_length_eq_zero (by rw [← hn]; exact h)) hr0
      · exact h
    have HN := hide hn
    have HR0 := hide hr0
    clear hxl hn hr0
    by_cases h9 : (n : Int) < 9
    · have hst : stateM rest = 1 := by unfold stateM; rw [if_neg HR0.out, if_pos (.inl (by have := HN.out; omega))]
      have HST := hide hst
      clear hst
      go_wp2_with fail
      refine wp_region_K 3 (by kernel_rfl) (by kernel_rfl) (fun Q HQ => ?_)
      simp only [List.take_succ_cons, List.take_zero, List.map_cons, List.map_nil]
      have f0 : ∀ wx, CB W.drew wx → wx.cell? ⟨w.heap.size, 0, none⟩ = some v := fun wx h => h.cell hcO
      have f1 : ∀ wx, CB W.drew wx → wx.cell? ⟨w.heap.size + 1, 0, none⟩ = some (.int .i64 (a : Int)) := fun wx h => h.cell hcA
      repeat
        first | apply wpS_c rfl | apply wpS_gc rfl (guard_mk rfl rfl)
        focus
          intro ev wx hC hx
          (try simp [Op.operands, Call.operands, opndS, Slot.holds] at hx)
          go_simp
          try (first | exact rfl | exact ⟨Below.refl _ _, rfl⟩)
          done
        dsimp only [setS, List.set]
      refine wpS_nil (HQ _ fun W4 hC4 => ?_)
      simp only [closeS, List.drop_succ_cons, List.drop_zero, List.drop_nil]
      clear HQ f0 f1
      have hb4 : Below W.heap.size W W4 := hC4.below
      have HROW4 := hide (HROW.out.kept (row := none) (below_grow hb4) (by cases v.ownBlock <;> simp))
      have HK4 := hide ((hb4.block D (Array.getElem?_eq_some_iff.1 hK).1).trans hK)
      have hB4 : Below w.heap.size w W4 := hB1.trans (hb4.mono hB1.size)
      go_wp2
      refine ⟨by simp, .inl ⟨_, _, rfl, run_takeDeferred HK4.out, ?_⟩⟩
      exact ⟨_, results_tmp3 rfl _ _ _, v, by rw [HAA.out, HST.out]; rfl, ownsRow_putObj HROW4.out _ HK4.out rfl, hB4.trans (belowK_b (w := w) (Nat.le_refl _) W4 D _ _ (by omega) HK4.out rfl rfl)⟩
    obtain ⟨b0, b1, b2, b3, b4, b5, b6, b7, b8, t, hrt⟩ := nine (l := rest) (by have := HN.out; omega)
    have hg0 : rest[0]? = some b0 := by rw [hrt]; rfl
    have hg1 : rest[1]? = some b1 := by rw [hrt]; rfl
    have hg2 : rest[2]? = some b2 := by rw [hrt]; rfl
    have hg3 : rest[3]? = some b3 := by rw [hrt]; rfl
    have hbe : be4 (rest.getD 0 0) (rest.getD 1 0) (rest.getD 2 0) (rest.getD 3 0) = be4 b0 b1 b2 b3 := by simp only [List.getD, hg0, hg1, hg2, hg3, Option.getD_some]
    have hnl := be4_lt b0 b1 b2 b3
    obtain ⟨z, hz⟩ : ∃ z, z = be4 b0 b1 b2 b3 := ⟨_, rfl⟩
    obtain ⟨q, hq⟩ : ∃ q, q = 9 + z := ⟨_, rfl⟩
    have eq1 : (9 : Int) + (z : Int) = (q : Int) := by omega
    rw [← hz] at hbe hnl
    have hz' := hz.symm
    have HZ := hide hz
    have HQ := hide hq
    have HBE := hide hbe
    have hql : q < 4294967305 := by omega
    clear hz' hz hq hbe hrt hnl
    go_wp2_with fail
    refine (get_any X rest b0 b1 b2 b3 W HXS.out hg0 hg1 hg2 hg3).mono ?_
    rintro e W3 ⟨rfl, hb3⟩
    rw [← HZ.out]
    have HROW3 := hide (HROW.out.kept (row := none) (below_grow hb3) (by cases v.ownBlock <;> simp))
    have HK3 := hide ((hb3.block D (Array.getElem?_eq_some_iff.1 hK).1).trans hK)
    have hB3 : Below w.heap.size w W3 := hB1.trans (hb3.mono hB1.size)
    have hcO3 : W3.cell? ⟨w.heap.size, 0, none⟩ = some v := (hb3.cell (lt_heap hcO)).trans hcO
    have hcA3 : W3.cell? ⟨w.heap.size + 1, 0, none⟩ = some (.int .i64 (a : Int)) := (hb3.cell (lt_heap hcA)).trans hcA
    clear hcO hcA hK hb3 hg0 hg1 hg2 hg3 bA1 hv bN1
    by_cases hnq : (n : Int) < (q : Int)
    · have hst : stateM rest = 1 := by unfold stateM; rw [if_neg HR0.out, HBE.out, if_pos (.inr (.inl (by have := HN.out; have := HQ.out; omega)))]
      have HST := hide hst
      clear hst
      go_wp2_with fail
      refine wp_region_K 3 (by kernel_rfl) (by kernel_rfl) (fun Q HQ => ?_)
      simp only [List.take_succ_cons, List.take_zero, List.map_cons, List.map_nil]
      have f0 : ∀ wx, CB W3.drew wx → wx.cell? ⟨w.heap.size, 0, none⟩ = some v := fun wx h => h.cell hcO3
      have f1 : ∀ wx, CB W3.drew wx → wx.cell? ⟨w.heap.size + 1, 0, none⟩ = some (.int .i64 (a : Int)) := fun wx h => h.cell hcA3
      repeat
        first | apply wpS_c rfl | apply wpS_gc rfl (guard_mk rfl rfl)
        focus
          intro ev wx hC hx
          (try simp [Op.operands, Call.operands, opndS, Slot.holds] at hx)
          go_simp
          try (first | exact rfl | exact ⟨Below.refl _ _, rfl⟩)
          done
        dsimp only [setS, List.set]
      refine wpS_nil (HQ _ fun W4 hC4 => ?_)
      simp only [closeS, List.drop_succ_cons, List.drop_zero, List.drop_nil]
      clear HQ f0 f1
      have hb4 : Below W3.heap.size W3 W4 := hC4.below
      have HROW4 := hide (HROW3.out.kept (row := none) (below_grow hb4) (by cases v.ownBlock <;> simp))
      have HK4 := hide ((hb4.block D (Array.getElem?_eq_some_iff.1 HK3.out).1).trans HK3.out)
      have hB4 : Below w.heap.size w W4 := hB3.trans (hb4.mono hB3.size)
      go_wp2
      refine ⟨by simp, .inl ⟨_, _, rfl, run_takeDeferred HK4.out, ?_⟩⟩
      exact ⟨_, results_tmp3 rfl _ _ _, v, by rw [HAA.out, HST.out]; rfl, ownsRow_putObj HROW4.out _ HK4.out rfl, hB4.trans (belowK_b (w := w) (Nat.le_refl _) W4 D _ _ (by omega) HK4.out rfl rfl)⟩
    obtain ⟨c, hc, hXc⟩ := str_at HXS.out (i := n - 1) (by have := HN.out; omega)
    have hlast : rest.getLast? = some c := by rw [List.getLast?_eq_getElem?, ← HN.out]; exact hc
    have hq2 : ¬ n < q := by omega
    have hn100 : n ≤ 100000 := by have := HN.out; have := HL.out; have := HLEN.out; have := HMM.out; omega
    obtain ⟨n1, rfl⟩ : ∃ n1, n = n1 + 1 := ⟨n - 1, by omega⟩
    rw [Nat.add_sub_cancel] at hXc
    have hq3 : ¬ (n1 : Int) + 1 < (q : Int) := by omega
    have h93 : ¬ (n1 : Int) + 1 < 9 := by omega
    have hn1b : n1 ≤ 100000 := by omega
    have HNA := hide (And.intro hn100 (And.intro hq2 (And.intro h9 hnq)))
    clear hn100 hq2 h9 hnq hn1
    have HLA := hide hlast
    clear hc hlast
    by_cases hc0 : c = 0
    · subst hc0
      have hst : stateM rest = 1 := by unfold stateM; rw [if_neg HR0.out, if_pos (.inr (.inr HLA.out))]
      have HST := hide hst
      clear hst
      go_wp2_with fail
      refine wp_region_K 3 (by kernel_rfl) (by kernel_rfl) (fun Q HQ => ?_)
      simp only [List.take_succ_cons, List.take_zero, List.map_cons, List.map_nil]
      have f0 : ∀ wx, CB W3.drew wx → wx.cell? ⟨w.heap.size, 0, none⟩ = some v := fun wx h => h.cell hcO3
      have f1 : ∀ wx, CB W3.drew wx → wx.cell? ⟨w.heap.size + 1, 0, none⟩ = some (.int .i64 (a : Int)) := fun wx h => h.cell hcA3
      repeat
        first | apply wpS_c rfl | apply wpS_gc rfl (guard_mk rfl rfl)
        focus
          intro ev wx hC hx
          (try simp [Op.operands, Call.operands, opndS, Slot.holds] at hx)
          go_simp
          try (first | exact rfl | exact ⟨Below.refl _ _, rfl⟩)
          done
        dsimp only [setS, List.set]
      refine wpS_nil (HQ _ fun W4 hC4 => ?_)
      simp only [closeS, List.drop_succ_cons, List.drop_zero, List.drop_nil]
      clear HQ f0 f1
      have hb4 : Below W3.heap.size W3 W4 := hC4.below
      have HROW4 := hide (HROW3.out.kept (row := none) (below_grow hb4) (by cases v.ownBlock <;> simp))
      have HK4 := hide ((hb4.block D (Array.getElem?_eq_some_iff.1 HK3.out).1).trans HK3.out)
      have hB4 : Below w.heap.size w W4 := hB3.trans (hb4.mono hB3.size)
      go_wp2
      refine ⟨by simp, .inl ⟨_, _, rfl, run_takeDeferred HK4.out, ?_⟩⟩
      exact ⟨_, results_tmp3 rfl _ _ _, v, by rw [HAA.out, HST.out]; rfl, ownsRow_putObj HROW4.out _ HK4.out rfl, hB4.trans (belowK_b (w := w) (Nat.le_refl _) W4 D _ _ (by omega) HK4.out rfl rfl)⟩
    have hcz : ((c.toNat : Int) == 0) = false := by rw [beq_eq_false_iff_ne]; intro h; exact hc0 (UInt8.toNat_inj.1 (by show c.toNat = 0; omega))
    have hst : stateM rest = 2 := by
      unfold stateM
      rw [if_neg HR0.out, HBE.out, if_neg]
      rintro (h | h | h)
      · have := HN.out; omega
      · have := HN.out; have := HQ.out; omega
      · rw [HLA.out] at h; injection h with h; exact hc0 h
    have HST := hide hst
    clear hst hc0
    go_wp2_with fail
    refine wp_region_K 3 (by kernel_rfl) (by kernel_rfl) (fun Q HQ => ?_)
    simp only [List.take_succ_cons, List.take_zero, List.map_cons, List.map_nil]
    have f0 : ∀ wx, CB W3.drew wx → wx.cell? ⟨w.heap.size, 0, none⟩ = some v := fun wx h => h.cell hcO3
    have f1 : ∀ wx, CB W3.drew wx → wx.cell? ⟨w.heap.size + 1, 0, none⟩ = some (.int .i64 (a : Int)) := fun wx h => h.cell hcA3
    repeat
      first | apply wpS_c rfl | apply wpS_gc rfl (guard_mk rfl rfl)
      focus
        intro ev wx hC hx
        (try simp [Op.operands, Call.operands, opndS, Slot.holds] at hx)
        go_simp
        try (first | exact rfl | exact ⟨Below.refl _ _, rfl⟩)
        done
      dsimp only [setS, List.set]
    refine wpS_nil (HQ _ fun W4 hC4 => ?_)
    simp only [closeS, List.drop_succ_cons, List.drop_zero, List.drop_nil]
    clear HQ f0 f1
    have hb4 : Below W3.heap.size W3 W4 := hC4.below
    have HROW4 := hide (HROW3.out.kept (row := none) (below_grow hb4) (by cases v.ownBlock <;> simp))
    have HK4 := hide ((hb4.block D (Array.getElem?_eq_some_iff.1 HK3.out).1).trans HK3.out)
    have hB4 : Below w.heap.size w W4 := hB3.trans (hb4.mono hB3.size)
    go_wp2
    refine ⟨by simp, .inl ⟨_, _, rfl, run_takeDeferred HK4.out, ?_⟩⟩
    exact ⟨_, results_tmp3 rfl _ _ _, v, by rw [HAA.out, HST.out]; rfl, ownsRow_putObj HROW4.out _ HK4.out rfl, hB4.trans (belowK_b (w := w) (Nat.le_refl _) W4 D _ _ (by omega) HK4.out rfl rfl)⟩
  case stop =>
    rintro D c pre W _ _ h _
    exact h.elim
end Go.Proofs.Ythkncfenhfieoaa
