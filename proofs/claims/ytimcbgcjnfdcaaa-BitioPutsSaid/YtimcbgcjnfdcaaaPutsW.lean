/- The walk of the law BitioPuts. -/
import Derived.Test.YtimcbgcjnfdcaaaAwW
import Derived.Test.YtimcbgcjnfdcaaaKeep
namespace Go.Proofs.Ytimcbgcjnfdcaaa
open Go.RowKit
set_option linter.unusedVariables false
set_option linter.unusedSimpArgs false
namespace bitioPuts
set_option maxRecDepth 100000 in
theorem walk (a0 : Option Addr) (len0 cap0 : Nat) (z0 : List Int) (a1 : Int) (w : World) (w0 : IsRow .u8 w a0 len0 cap0 z0) (w1 : (Lit.int .u64 a1).wf = true) :
    Calls Try.prog 3 #[.slice a0 len0 cap0, .int .u64 a1] w fun e w' => e = .returned (.bool true) ∧ Below w.heap.size w w' := by
  obtain ⟨l, hl, hr, hc, hm, hn⟩ := w0.bytes
  have HL := hide hl.symm
  have HR := hide hr
  have h0 := bounds_u64 w1
  obtain ⟨v, rfl⟩ := Int.eq_ofNat_of_zero_le h0.1
  have hv : v < 2 ^ 64 := by omega
  have HV := hide hv
  unfold maxLen at hm
  clear hl hr hn w0 hv h0 w1
  by_cases h2 : 100 < len0
  · go_enter Try.func3, Try.ntmps3
    go_wp2
    go_ret
    exact ⟨rfl, bl_refl _⟩
  · obtain ⟨i0, hi0, hz0, hz1, hz2⟩ := info_parts info_u8
    go_enter Try.func3, Try.ntmps3
    go_wp2_with (at_builtin; refine wpList_append_rd _ rfl (.const (.slice none 0 0)) (.tmp 9) 22 rfl w.heap.size 5 i0 _ 1 1 Try.underlying22 hi0 hz0 hz1 hz2 rfl (by omega) (.slice none 0 0) 0 [] rfl ⟨rfl, .inl ⟨rfl, rfl⟩⟩ a0 len0 cap0 (l.map u8v) rfl (by rw [List.length_map, Nat.mul_one]; exact HL.out.symm) HR.out (u8s_one _) (by simp only [maxLen]; omega) (by omega) (Nat.le_refl _) ?_; intro v1 w1 hown1 hg1 hat1; rw [Nat.zero_add, List.nil_append] at hown1; obtain ⟨hx1, a1, c1, rfl, hc1, hx2⟩ := own_form hown1; clear hx1 hx2; have HO1 := hide hown1; have hb1 : Below w.heap.size w w1 := bl_grown (bl_refl w) hg1 (fun k h => by simp [Value.ownBlock] at h); clear hown1 hg1 hat1)
    all_goals (try go_wp2_with fail)
    refine (putuv_any _ _ _ _ l v w1 rfl HV.out HL.out (by omega) (HR.out.below hb1)).mono ?_
    rintro e w2 ⟨v2, rfl, hown, hb2⟩
    obtain ⟨hx1, a2, c2, rfl, hx2, hrd2, hx3⟩ := own_form hown
    clear hx1 hx2
    have HB2 := hide hx3
    clear hx3
    have HR2 := hide hrd2
    have HO1' := hide (own_below HO1.out hb2)
    obtain ⟨n2, hn2⟩ : ∃ n, n = len0 + (uv v).length := ⟨_, rfl⟩
    rw [← hn2]
    have HN2 := hide hn2
    clear hn2 hown hrd2
    go_wp2_with fail
    refine (ruv_any _ v w2 rfl HV.out).mono ?_
    rintro e w3 ⟨v3, rfl, hown, hb3⟩
    obtain ⟨hx1, a3, c3, rfl, hx2, hrd3, hx3⟩ := own_form hown
    clear hx1 hx2 hx3
    have HR3 := hide hrd3
    have hb13 := bl_trans hb1 (bl_trans hb2 hb3)
    obtain ⟨n3, hn3⟩ : ∃ n, n = (uv v).length := ⟨_, rfl⟩
    rw [← hn3]
    have hn10 : n3 ≤ 10 := by rw [hn3]; exact (uvF_length 9 v).2
    have HN3 := hide hn3
    have HO3 := hide (own_below HO1'.out hb3)
    clear hn3 hown hrd3
    go_wp2_with (at_builtin; go_loud (refine wpList_append_keep rfl (.tmp 14) (.tmp 16) 22 rfl w.heap.size 5 i0 _ 1 Try.underlying22 hi0 hz0 hz1 hz2 rfl a1 len0 c1 (l.map u8v) rfl HO3.out a3 n3 c3 ((uv v).map u8v) rfl (by rw [List.length_map]; exact HN3.out.symm) HR3.out (u8s_one _) (by simp only [maxLen]; omega) (by omega) hb13.size ?_); go_loud (intro v4 w4 hown4 hg4 hrd4; rw [← List.map_append] at hown4; obtain ⟨hx1, a4, c4, rfl, hx2, hrd5, hx3⟩ := own_form hown4; clear hx1 hx2 hx3; have HR4 := hide (And.intro hrd4 hrd5); have HB4 := hide (bl_grown hb13 hg4 (fun k h => (HO3.out.lt k h).1)); have HR2' := hide ((HR2.out.below hb3).grown hg4 (fun b hb he => by have h1 := HB2.out.2 b hb; have h2 := HO1.out.lt _ he.symm; omega)); clear hown4 hg4 hrd4 hrd5))
    refine (same_any a2 a4 n2 c2 (len0 + n3) c4 (l ++ uv v) (l ++ uv v) w4 (by rw [HN2.out, List.length_append, ← HL.out]) (by rw [HN3.out, List.length_append, ← HL.out]) HR2'.out HR4.out.2).mono ?_
    rintro e w5 ⟨rfl, rfl⟩
    rw [show ((l ++ uv v) == (l ++ uv v)) = true from beq_self_eq_true _]
    have hci : (len0 : Int) ≤ c1 := by omega
    go_wp2_with fail
    refine (same_any a0 a1 len0 cap0 len0 c1 l l w4 HL.out HL.out (HR.out.below HB4.out) HR4.out.1).mono ?_
    rintro e w5 ⟨rfl, rfl⟩
    rw [show (l == l) = true from beq_self_eq_true _]
    go_wp2_with fail
    refine (awake_any _).mono ?_
    rintro e w6 ⟨rfl, hb6⟩
    go_wp2_with fail
    go_ret
    exact ⟨rfl, bl_trans HB4.out hb6⟩
end bitioPuts
end Go.Proofs.Ytimcbgcjnfdcaaa
