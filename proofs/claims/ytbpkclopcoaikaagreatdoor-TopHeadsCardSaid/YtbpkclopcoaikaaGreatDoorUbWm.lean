/- The walk of treerel's Common. -/
import Derived.Test.YtbpkclopcoaikaaGreatDoorUaWm
namespace Go.Proofs.YtbpkclopcoaikaaGreatDoor
open Go.RowKit
set_option linter.unusedVariables false
set_option linter.unusedSimpArgs false
def MinMax (a b mi mx : Nat) : Prop := (a ≤ b ∧ mi = a ∧ mx = b) ∨ (b < a ∧ mi = b ∧ mx = a)
set_option maxHeartbeats 2000000 in
set_option maxRecDepth 100000 in
theorem rcommon_any (c : Cv) (l : List Nd) (a b mi mx : Nat) (w : World) (h : IsN w c.N.a c.N.n l) (hm : c.N.n ≤ 4096) (hn : c.T.n ≤ 4096) (h1 : a < c.T.n) (h2 : b < c.T.n) (hmm : MinMax a b mi mx) (hmi : mi ≤ mx) (hmx : mx < c.T.n) :
    Calls Tryz.prog 8 #[c.v, .int .i64 (a : Int), .int .i64 (b : Int)] w fun e w' => e = .returned (.int .i64 (lastI (holdL l (mi : Int) ((mx : Int) + 1) c.N.n))) ∧ Below w.heap.size w w' := by
  have HI := hide h
  clear h
  go_enter Tryz.func8, Tryz.ntmps8
  go_wp2_with fail
  have HB0 := hide (bl_alloc (bl_refl w) c.o)
  have HC0 := hide (CCells.new w c)
  refine (token_tok c a _ h1).mono ?_
  rintro e w1 ⟨rfl, hb1⟩
  have HC1 := hide (HC0.out.below hb1)
  have HB1 := hide (HB0.out.trans (hb1.mono HB0.out.size))
  obtain ⟨c0, c1, c2, c3, c4, c5, c6⟩ := HC1.out
  clear hb1
  go_wp2_with fail
  refine (token_tok c b _ h2).mono ?_
  rintro e w2 ⟨rfl, hb2⟩
  clear c0 c1 c2 c3 c4 c5 c6
  have HC2 := hide (HC1.out.below hb2)
  have HB2 := hide (HB1.out.trans (hb2.mono HB1.out.size))
  obtain ⟨c0, c1, c2, c3, c4, c5, c6⟩ := HC2.out
  clear hb2
  have HIn := hide (HI.out.below HB2.out)
  have h4 : mx ≤ 4096 := by omega
  go_wp2_with fail
  · obtain ⟨rfl, rfl⟩ : mi = b ∧ mx = a := by unfold MinMax at hmm; omega
    refine (nodes_any c l (mi : Int) ((mx : Int) + 1) w2 HIn.out hm (by omega) (by omega) (by omega)).mono ?_
    rintro e w3 ⟨A, n, cc, rfl, hn3, hb3, hi3⟩
    have HB3 := hide (HB2.out.trans (hb3.mono HB2.out.size))
    have HI3 := hide hi3
    obtain ⟨L, hL⟩ : ∃ L, L = holdL l (mi : Int) ((mx : Int) + 1) c.N.n := ⟨_, rfl⟩
    have HL := hide hL
    rw [← hL] at HI3 hn3
    have hln : L.length ≤ c.N.n := by rw [hL]; exact holdL_len _ _ _ _
    clear hb3 hi3 hL
    rcases List.eq_nil_or_concat L with rfl | ⟨L', t, rfl⟩
    · have hn0 : n = 0 := hn3
      subst hn0
      clear hn3 hln
      go_wp2_with fail
      go_ret
      exact ⟨by rw [← HL.out]; rfl, HB3.out⟩
    · rw [List.concat_eq_append] at *
      obtain ⟨m', rfl⟩ : ∃ m', n = m' + 1 := ⟨L'.length, by rw [hn3]; simp⟩
      have hml : m' = L'.length := by simp at hn3; omega
      have g0 := HI3.out.at_ (k := m') (by omega)
      obtain ⟨bl, ol, y, rfl, hbl, hy, g0⟩ := g0
      obtain rfl : y = (t : Int) := by
        rw [hml] at hy
        simp [nats] at hy
        exact hy.symm
      have hm5 : m' ≤ 4096 := by simp at hln; omega
      clear hy hn3 hln hml
      have hmi9 : (m' : Int) < (m' : Int) + 1 := by omega
      go_wp2_with fail
      go_ret
      exact ⟨by rw [← HL.out]; simp [lastI], HB3.out⟩
  · obtain ⟨rfl, rfl⟩ : mi = a ∧ mx = b := by unfold MinMax at hmm; omega
    refine (nodes_any c l (mi : Int) ((mx : Int) + 1) w2 HIn.out hm (by omega) (by omega) (by omega)).mono ?_
    rintro e w3 ⟨A, n, cc, rfl, hn3, hb3, hi3⟩
    have HB3 := hide (HB2.out.trans (hb3.mono HB2.out.size))
    have HI3 := hide hi3
    obtain ⟨L, hL⟩ : ∃ L, L = holdL l (mi : Int) ((mx : Int) + 1) c.N.n := ⟨_, rfl⟩
    have HL := hide hL
    rw [← hL] at HI3 hn3
    have hln : L.length ≤ c.N.n := by rw [hL]; exact holdL_len _ _ _ _
    clear hb3 hi3 hL
    rcases List.eq_nil_or_concat L with rfl | ⟨L', t, rfl⟩
    · have hn0 : n = 0 := hn3
      subst hn0
      clear hn3 hln
      go_wp2_with fail
      go_ret
      exact ⟨by rw [← HL.out]; rfl, HB3.out⟩
    · rw [List.concat_eq_append] at *
      obtain ⟨m', rfl⟩ : ∃ m', n = m' + 1 := ⟨L'.length, by rw [hn3]; simp⟩
      have hml : m' = L'.length := by simp at hn3; omega
      have g0 := HI3.out.at_ (k := m') (by omega)
      obtain ⟨bl, ol, y, rfl, hbl, hy, g0⟩ := g0
      obtain rfl : y = (t : Int) := by
        rw [hml] at hy
        simp [nats] at hy
        exact hy.symm
      have hm5 : m' ≤ 4096 := by simp at hln; omega
      clear hy hn3 hln hml
      have hmi9 : (m' : Int) < (m' : Int) + 1 := by omega
      go_wp2_with fail
      go_ret
      exact ⟨by rw [← HL.out]; simp [lastI], HB3.out⟩
  · have hab : a = b := by omega
    obtain ⟨e1, e2⟩ : mi = a ∧ mx = a := by unfold MinMax at hmm; omega
    clear hmm hmi
    subst hab
    subst e1
    subst e2
    refine (nodes_any c l (mx : Int) ((mx : Int) + 1) w2 HIn.out hm (by omega) (by omega) (by omega)).mono ?_
    rintro e w3 ⟨A, n, cc, rfl, hn3, hb3, hi3⟩
    have HB3 := hide (HB2.out.trans (hb3.mono HB2.out.size))
    have HI3 := hide hi3
    obtain ⟨L, hL⟩ : ∃ L, L = holdL l (mx : Int) ((mx : Int) + 1) c.N.n := ⟨_, rfl⟩
    have HL := hide hL
    rw [← hL] at HI3 hn3
    have hln : L.length ≤ c.N.n := by rw [hL]; exact holdL_len _ _ _ _
    clear hb3 hi3 hL
    rcases List.eq_nil_or_concat L with rfl | ⟨L', t, rfl⟩
    · have hn0 : n = 0 := hn3
      subst hn0
      clear hn3 hln
      go_wp2_with fail
      go_ret
      exact ⟨by rw [← HL.out]; rfl, HB3.out⟩
    · rw [List.concat_eq_append] at *
      obtain ⟨m', rfl⟩ : ∃ m', n = m' + 1 := ⟨L'.length, by rw [hn3]; simp⟩
      have hml : m' = L'.length := by simp at hn3; omega
      have g0 := HI3.out.at_ (k := m') (by omega)
      obtain ⟨bl, ol, y, rfl, hbl, hy, g0⟩ := g0
      obtain rfl : y = (t : Int) := by
        rw [hml] at hy
        simp [nats] at hy
        exact hy.symm
      have hm5 : m' ≤ 4096 := by simp at hln; omega
      clear hy hn3 hln hml
      have hmi9 : (m' : Int) < (m' : Int) + 1 := by omega
      go_wp2_with fail
      go_ret
      exact ⟨by rw [← HL.out]; simp [lastI], HB3.out⟩
end Go.Proofs.YtbpkclopcoaikaaGreatDoor
