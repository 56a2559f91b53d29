/- The walks of the reference's Validate and Valid, and of tiny: what is true of a corpus that is tiny. -/
import Derived.Test.YtbpkclopcoaikaaGreatDoorUoWm
import Derived.Test.YtbpkclopcoaikaaGreatDoorMk
import Derived.Test.YtbpkclopcoaikaaGreatDoorMj
namespace Go.Proofs.YtbpkclopcoaikaaGreatDoor
open Go.RowKit
set_option linter.unusedVariables false
set_option linter.unusedSimpArgs false
structure CorpOk (c : Cv) (d : Cd) : Prop where
  X : TextsOk d.X c.T.n
  N : NodesOk d.N d.X
  H : HeadsOk d.H c.T.n
def ValdP (c : Cv) (d : Cd) (w : World) (e : Ending) (w' : World) : Prop := ∃ x y z : Int, e = .returned (.tuple #[.int .i64 x, .int .i64 y, .int .i64 z]) ∧ Below w.heap.size w w' ∧ (z = 0 → CorpOk c d)
def ValidP (c : Cv) (d : Cd) (w : World) (e : Ending) (w' : World) : Prop := ∃ b : Bool, e = .returned (.bool b) ∧ Below w.heap.size w w' ∧ (b = true → CorpOk c d)
def TinyP (most : Nat) (c : Cv) (d : Cd) (w : World) (e : Ending) (w' : World) : Prop := ∃ b : Bool, e = .returned (.bool b) ∧ Below w.heap.size w w' ∧ (b = true → CorpOk c d ∧ c.T.n ≤ most ∧ c.N.n ≤ 40)
set_option maxHeartbeats 16000000 in
set_option maxRecDepth 100000 in
theorem rvalidate_any (c : Cv) (d : Cd) (w : World) (h : IsCo w c d) (hf : CFit c) : Calls Tryz.prog 37 #[c.v] w (ValdP c d w) := by
  have HI := hide h
  have HF := hide hf
  obtain ⟨W0, hW0⟩ : ∃ W0, W0 = w.alloc c.o := ⟨_, rfl⟩
  have HB := hide (bl_alloc (bl_refl w) c.o)
  have HC := hide (CCells.new w c)
  rw [← hW0] at HB HC
  have HI0 := hide (h.below HB.out)
  clear h hf
  go_enter Tryz.func37, Tryz.ntmps37
  go_wp2_with fail
  rw [← hW0]
  clear hW0
  refine (attrs_any c.A.a c.A.n c.A.c d.A _ HI0.out.A HF.out.A.1 HF.out.A.2).mono ?_
  rintro e w1 ⟨x1, y1, rfl, hb1⟩
  have HE1 := hide hb1
  have HD1 := hide (HB.out.trans (hb1.mono HB.out.size))
  clear hb1
  by_cases h1 : y1 = 0
  case neg =>
    have h1' : (y1 != 0) = true := by rw [bne_iff_ne]; exact h1
    go_wp2
    refine bodyPost_ret (v := .tuple #[.int .i64 1, .int .i64 x1, .int .i64 y1]) (by simp [results, Tryz.results37, go_sem]) rfl ⟨_, _, _, rfl, HD1.out, fun h => absurd h h1⟩
  subst h1
  obtain ⟨s0, s1, s2, s3, s4, s5, s6⟩ := HC.out.below HE1.out
  go_wp2_with fail
  clear s0 s1 s2 s3 s4 s5 s6
  refine (rtokens_any c d _ (HI0.out.below HE1.out) HF.out).mono ?_
  rintro e w2 ⟨x2, y2, rfl, hb2⟩
  have HE2 := hide (HE1.out.trans (hb2.mono HE1.out.size))
  have HD2 := hide (HB.out.trans (HE2.out.mono HB.out.size))
  clear hb2
  by_cases h2 : y2 = 0
  case neg =>
    have h2' : (y2 != 0) = true := by rw [bne_iff_ne]; exact h2
    go_wp2
    refine bodyPost_ret (v := .tuple #[.int .i64 2, .int .i64 x2, .int .i64 y2]) (by simp [results, Tryz.results37, go_sem]) rfl ⟨_, _, _, rfl, HD2.out, fun h => absurd h h2⟩
  subst h2
  obtain ⟨s0, s1, s2, s3, s4, s5, s6⟩ := HC.out.below HE2.out
  go_wp2_with fail
  clear s0 s1 s2 s3 s4 s5 s6
  refine (texts_any c d _ (HI0.out.below HE2.out) HF.out).mono ?_
  rintro e w3 ⟨x3, y3, rfl, hb3, ho3⟩
  have HO3 := hide ho3
  have HE3 := hide (HE2.out.trans (hb3.mono HE2.out.size))
  have HD3 := hide (HB.out.trans (HE3.out.mono HB.out.size))
  clear hb3 ho3
  by_cases h3 : y3 = 0
  case neg =>
    have h3' : (y3 != 0) = true := by rw [bne_iff_ne]; exact h3
    go_wp2
    refine bodyPost_ret (v := .tuple #[.int .i64 3, .int .i64 x3, .int .i64 y3]) (by simp [results, Tryz.results37, go_sem]) rfl ⟨_, _, _, rfl, HD3.out, fun h => absurd h h3⟩
  have HP3 := hide (HO3.out h3)
  subst h3
  obtain ⟨s0, s1, s2, s3, s4, s5, s6⟩ := HC.out.below HE3.out
  go_wp2_with fail
  clear s0 s1 s2 s3 s4 s5 s6
  refine (regions_any c d _ (HI0.out.below HE3.out) HF.out).mono ?_
  rintro e w4 ⟨x4, y4, rfl, hb4⟩
  have HE4 := hide (HE3.out.trans (hb4.mono HE3.out.size))
  have HD4 := hide (HB.out.trans (HE4.out.mono HB.out.size))
  clear hb4
  by_cases h4 : y4 = 0
  case neg =>
    have h4' : (y4 != 0) = true := by rw [bne_iff_ne]; exact h4
    go_wp2
    refine bodyPost_ret (v := .tuple #[.int .i64 4, .int .i64 x4, .int .i64 y4]) (by simp [results, Tryz.results37, go_sem]) rfl ⟨_, _, _, rfl, HD4.out, fun h => absurd h h4⟩
  subst h4
  obtain ⟨s0, s1, s2, s3, s4, s5, s6⟩ := HC.out.below HE4.out
  go_wp2_with fail
  clear s0 s1 s2 s3 s4 s5 s6
  refine (nodesC_any c d _ (HI0.out.below HE4.out) HF.out).mono ?_
  rintro e w5 ⟨x5, y5, rfl, hb5, ho5⟩
  have HO5 := hide ho5
  have HE5 := hide (HE4.out.trans (hb5.mono HE4.out.size))
  have HD5 := hide (HB.out.trans (HE5.out.mono HB.out.size))
  clear hb5 ho5
  by_cases h5 : y5 = 0
  case neg =>
    have h5' : (y5 != 0) = true := by rw [bne_iff_ne]; exact h5
    go_wp2
    refine bodyPost_ret (v := .tuple #[.int .i64 5, .int .i64 x5, .int .i64 y5]) (by simp [results, Tryz.results37, go_sem]) rfl ⟨_, _, _, rfl, HD5.out, fun h => absurd h h5⟩
  have HP5 := hide (HO5.out h5)
  subst h5
  obtain ⟨s0, s1, s2, s3, s4, s5, s6⟩ := HC.out.below HE5.out
  go_wp2_with fail
  clear s0 s1 s2 s3 s4 s5 s6
  refine (rheads_any c d _ (HI0.out.below HE5.out) HF.out).mono ?_
  rintro e w6 ⟨x6, y6, rfl, hb6, ho6⟩
  have HO6 := hide ho6
  have HE6 := hide (HE5.out.trans (hb6.mono HE5.out.size))
  have HD6 := hide (HB.out.trans (HE6.out.mono HB.out.size))
  clear hb6 ho6
  by_cases h6 : y6 = 0
  case neg =>
    have h6' : (y6 != 0) = true := by rw [bne_iff_ne]; exact h6
    go_wp2
    refine bodyPost_ret (v := .tuple #[.int .i64 6, .int .i64 x6, .int .i64 y6]) (by simp [results, Tryz.results37, go_sem]) rfl ⟨_, _, _, rfl, HD6.out, fun h => absurd h h6⟩
  have HP6 := hide (HO6.out h6)
  subst h6
  go_wp2
  refine bodyPost_ret (v := .tuple #[.int .i64 0, .int .i64 0, .int .i64 0]) (by simp [results, Tryz.results37, go_sem]) rfl ⟨_, _, _, rfl, HD6.out, fun _ => ⟨HP3.out, HP5.out, HP6.out⟩⟩
set_option maxHeartbeats 4000000 in
set_option maxRecDepth 100000 in
theorem rvalidC_any (c : Cv) (d : Cd) (w : World) (h : IsCo w c d) (hf : CFit c) : Calls Tryz.prog 22 #[c.v] w (ValidP c d w) := by
  have HF := hide hf
  obtain ⟨W0, hW0⟩ : ∃ W0, W0 = w.alloc c.o := ⟨_, rfl⟩
  have HB := hide (bl_alloc (bl_refl w) c.o)
  rw [← hW0] at HB
  have HI0 := hide (h.below HB.out)
  clear h hf
  go_enter Tryz.func22, Tryz.ntmps22
  go_wp2_with fail
  rw [← hW0]
  clear hW0
  refine (rvalidate_any c d _ HI0.out HF.out).mono ?_
  rintro e w1 ⟨x, y, z, rfl, hb, ho⟩
  have HO := hide ho
  have HD := hide (HB.out.trans (hb.mono HB.out.size))
  clear hb ho
  by_cases hz : z = 0
  · have HP := hide (HO.out hz)
    subst hz
    go_wp2
    go_ret
    exact ⟨_, rfl, HD.out, fun _ => HP.out⟩
  · have hz' : (z == 0) = false := by rw [beq_eq_false_iff_ne]; exact hz
    go_wp2
    go_ret
    exact ⟨_, rfl, HD.out, fun h => by simp at h⟩
set_option maxHeartbeats 4000000 in
set_option maxRecDepth 100000 in
theorem tiny_any (most : Nat) (c : Cv) (d : Cd) (w : World) (h : IsCo w c d) (hf : CFit c) : Calls Tryz.prog 6 #[c.v, .int .i64 (most : Int)] w (TinyP most c d w) := by
  have HF := hide hf
  obtain ⟨W0, hW0⟩ : ∃ W0, W0 = w.alloc c.o := ⟨_, rfl⟩
  have HB := hide (bl_alloc (bl_refl w) c.o)
  have HC := hide (CCells.new w c)
  have HE0 : Hid (Below w.heap.size w (w.alloc c.o)) := hide (bl_alloc (bl_refl w) c.o)
  rw [← hW0] at HB HC
  have HI0 := hide (h.below HB.out)
  clear h hf
  go_enter Tryz.func6, Tryz.ntmps6
  by_cases h1 : (most : Int) < (c.T.n : Int)
  case pos =>
    clear hW0
    go_wp2
    go_ret
    exact ⟨_, rfl, HE0.out, fun h => by simp at h⟩
  by_cases h2 : (5 : Int) < (c.X.n : Int)
  case pos =>
    clear hW0
    go_wp2
    go_ret
    exact ⟨_, rfl, HE0.out, fun h => by simp at h⟩
  by_cases h3 : (40 : Int) < (c.R.n : Int)
  case pos =>
    clear hW0
    go_wp2
    go_ret
    exact ⟨_, rfl, HE0.out, fun h => by simp at h⟩
  by_cases h4 : (40 : Int) < (c.N.n : Int)
  case pos =>
    clear hW0
    go_wp2
    go_ret
    exact ⟨_, rfl, HE0.out, fun h => by simp at h⟩
  by_cases h5 : (4 : Int) < (c.A.n : Int)
  case pos =>
    clear hW0
    go_wp2
    go_ret
    exact ⟨_, rfl, HE0.out, fun h => by simp at h⟩
  have HN := hide (And.intro (show c.T.n ≤ most by omega) (show c.N.n ≤ 40 by omega))
  go_wp2_with fail
  rw [← hW0]
  clear hW0 HE0 h1 h2 h3 h4 h5
  refine (weightC_any c d _ HI0.out HF.out).mono ?_
  rintro e w1 ⟨x, rfl, hb⟩
  have HE1 := hide hb
  have HD1 := hide (HB.out.trans (hb.mono HB.out.size))
  clear hb
  by_cases h6 : 2500 < x
  · go_wp2
    go_ret
    exact ⟨_, rfl, HD1.out, fun h => by simp at h⟩
  obtain ⟨s0, s1, s2, s3, s4, s5, s6⟩ := HC.out.below HE1.out
  go_wp2_with fail
  clear s0 s1 s2 s3 s4 s5 s6
  refine (rvalidC_any c d _ (HI0.out.below HE1.out) HF.out).mono ?_
  rintro e w2 ⟨b, rfl, hb, ho⟩
  have HO := hide ho
  have HD2 := hide (HD1.out.trans (hb.mono HD1.out.size))
  clear hb ho
  go_wp2
  go_ret
  exact ⟨_, rfl, HD2.out, fun h => ⟨HO.out h, HN.out.1, HN.out.2⟩⟩
end Go.Proofs.YtbpkclopcoaikaaGreatDoor
