/- The chapter's examples; long. -/
import Derived.Test.YtbicpnhgokngeaaLPhrW
namespace Go.Proofs.Ytbicpnhgokngeaa
open Go.RowKit
set_option linter.unusedVariables false
set_option linter.unusedSimpArgs false
theorem ex_merge : mergeM [[1, 3], [2, 3]] = ([1, 2, 3], 0) := by
  have h1 : chkA [[1, 3], [2, 3]] = 0 := by decide
  have h2 : uni [] [1, 3] = [1, 3] := by simp [uni]
  have h3 : uni [1, 3] [2, 3] = [1, 2, 3] := by
    rw [uni_lt (by decide), uni_gt (by decide), uni_eq]; simp [uni]
  unfold mergeM
  rw [if_pos h1]
  show mrg [] _ = _
  unfold mrg
  rw [h2, if_neg (by decide)]
  unfold mrg
  rw [h3, if_neg (by decide)]
  rfl
theorem ex_phrase : phraseM [[1, 5, 7], [2, 8]] [0, 1] = ([1, 7], 0) := by decide
theorem isI_lit {w : World} (l : List Int) (C : Array Value) (e : TypeId) (h : C.toList = l.map iv) : IsI (w.alloc (.cells C e)) (some ⟨w.heap.size, 0, none⟩) l.length l :=
  ⟨rfl, by have := rd_lit w C e (0, 0); rwa [h] at this⟩
theorem isI_at {w : World} {g : Nat} (hg : g = w.heap.size) (l : List Int) (C : Array Value) (e : TypeId) (h : C.toList = l.map iv) : IsI (w.alloc (.cells C e)) (some ⟨g, 0, none⟩) l.length l := by
  subst hg; exact isI_lit l C e h
set_option maxHeartbeats 1000000 in
set_option maxRecDepth 100000 in
theorem awake_any (w : World) : Calls Try.prog 10 #[] w fun e w' => e = .returned (.bool true) ∧ Below w.heap.size w w' := by
  go_enter Try.func10, Try.ntmps10
  go_wp2_with fail
  have l1 : IsI ((w.alloc (.cells #[.int .i64 1, .int .i64 3] 3)).alloc (.cells #[.int .i64 2, .int .i64 3] 3)) (some ⟨w.heap.size, 0, none⟩) 2 [1, 3] := (isI_lit (w := w) [1, 3] #[.int .i64 1, .int .i64 3] 3 rfl).below (bl_alloc (bl_refl _) _)
  have l2 : IsI ((w.alloc (.cells #[.int .i64 1, .int .i64 3] 3)).alloc (.cells #[.int .i64 2, .int .i64 3] 3)) (some ⟨w.heap.size + 1, 0, none⟩) 2 [2, 3] := isI_at (by simp) [2, 3] #[.int .i64 2, .int .i64 3] 3 rfl
  refine (unionF_any _ _ 2 2 2 2 [1, 3] [2, 3] _ l1 l2 (by decide) (by decide) (by decide) (by decide)).mono ?_
  rintro e w1 ⟨⟨v1, rfl, hown1⟩, hb1⟩
  rw [ex_merge] at hown1 ⊢
  obtain ⟨a1, c1, rfl, hc1, _, hi1⟩ := own_isI hown1 rfl
  have HI1 := hide hi1
  have hb01 : Below w.heap.size w w1 := bl_trans (bl_alloc (bl_alloc (bl_refl w) _) _) hb1
  clear l1 l2 hown1 hi1 hb1
  go_wp2_with fail
  obtain ⟨w2, hw2⟩ : ∃ w2, w2 = w1.alloc (.cells #[.int .i64 1, .int .i64 5, .int .i64 7] 3) := ⟨_, rfl⟩
  obtain ⟨w3, hw3⟩ : ∃ w3, w3 = w2.alloc (.cells #[.int .i64 2, .int .i64 8] 3) := ⟨_, rfl⟩
  have hb2 : Below w1.heap.size w1 w2 := by rw [hw2]; exact bl_alloc (bl_refl _) _
  have hb3 : Below w2.heap.size w2 w3 := by rw [hw3]; exact bl_alloc (bl_refl _) _
  have s2 : w2.heap.size = w1.heap.size + 1 := by rw [hw2]; simp
  have s3 : w3.heap.size = w1.heap.size + 1 + 1 := by rw [hw3, World.size_alloc, s2]
  have p1 : IsI w3 (some ⟨w1.heap.size, 0, none⟩) 3 [1, 5, 7] := (show IsI w2 _ 3 [1, 5, 7] by rw [hw2]; exact isI_lit [1, 5, 7] _ _ rfl).below hb3
  have p2 : IsI w3 (some ⟨w1.heap.size + 1, 0, none⟩) 2 [2, 8] := by rw [hw3]; exact isI_at s2.symm [2, 8] _ _ rfl
  have hll := ll_two (e := 22) p1 p2 (Nat.le_refl _) (Nat.le_refl _) (by decide) (by decide)
  rw [s3] at hll
  have hb4 : Below w3.heap.size w3 ((w3.alloc (.cells #[.slice (some ⟨w1.heap.size, 0, none⟩) 3 3, .slice (some ⟨w1.heap.size + 1, 0, none⟩) 2 2] 22)).alloc (.cells #[.int .i64 0, .int .i64 1] 3)) := bl_alloc (bl_alloc (bl_refl _) _) _
  have p3 : IsI ((w3.alloc (.cells #[.slice (some ⟨w1.heap.size, 0, none⟩) 3 3, .slice (some ⟨w1.heap.size + 1, 0, none⟩) 2 2] 22)).alloc (.cells #[.int .i64 0, .int .i64 1] 3)) (some ⟨w1.heap.size + 1 + 1 + 1, 0, none⟩) 2 [0, 1] := isI_at (by rw [World.size_alloc, s3]) [0, 1] _ _ rfl
  rw [← hw2, ← hw3]
  refine (phrase_any _ 2 2 [[1, 5, 7], [2, 8]] _ 2 2 [0, 1] _ (hll.below (bl_alloc (bl_refl _) _)) p3 (by decide) (by decide)).mono ?_
  rintro e w4 ⟨⟨v4, rfl, hown4⟩, hbw4⟩
  rw [ex_phrase] at hown4 ⊢
  obtain ⟨a4, c4, rfl, hc4, _, hi4⟩ := own_isI hown4 rfl
  have hb14 : Below w1.heap.size w1 w4 := bl_trans (bl_trans (bl_trans hb2 hb3) hb4) hbw4
  have HI4 := hide hi4
  have HI14 := hide (HI1.out.below hb14)
  have hb04 := bl_trans hb01 hb14
  clear hown4 hi4 hbw4 p1 p2 p3 hll hb4 hb2 hb3 hw2 hw3 s2 s3 hb14
  go_wp2_with fail
  refine (same_ints a1 _ 3 c1 3 3 [1, 2, 3] [1, 2, 3] _ (HI14.out.below (bl_alloc (bl_refl _) _)) (isI_lit (w := w4) [1, 2, 3] #[.int .i64 1, .int .i64 2, .int .i64 3] 3 rfl) hc1 (by decide) (by decide) (by decide)).mono ?_
  rintro e w5 ⟨rfl, hb5⟩
  have hb45 : Below w4.heap.size w4 w5 := bl_trans (bl_alloc (bl_refl w4) _) hb5
  have HI5 := hide (HI4.out.below hb45)
  have hb05 := bl_trans hb04 hb45
  rw [show decide (([1, 2, 3] : List Int) = [1, 2, 3]) = true by decide]
  clear hb5 hb45 hb04
  go_wp2_with fail
  refine (same_ints a4 _ 2 c4 2 2 [1, 7] [1, 7] _ (HI5.out.below (bl_alloc (bl_refl _) _)) (isI_lit (w := w5) [1, 7] #[.int .i64 1, .int .i64 7] 3 rfl) hc4 (by decide) (by decide) (by decide)).mono ?_
  rintro e w6 ⟨rfl, hb6⟩
  rw [show decide (([1, 7] : List Int) = [1, 7]) = true by decide]
  go_wp2
  go_ret
  exact ⟨rfl, bl_trans hb05 (bl_trans (bl_alloc (bl_refl w5) _) hb6)⟩
end Go.Proofs.Ytbicpnhgokngeaa
