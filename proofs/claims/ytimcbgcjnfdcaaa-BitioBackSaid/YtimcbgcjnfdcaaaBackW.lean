/- The walk of the law BitioBack. -/
import Derived.Test.YtimcbgcjnfdcaaaAwW
namespace Go.Proofs.Ytimcbgcjnfdcaaa
open Go.RowKit
set_option linter.unusedVariables false
set_option linter.unusedSimpArgs false
theorem Rd.grown2 {w w' : World} {a : Option Addr} {xs : List Value} {row : Option Nat} (h : Rd w a xs) (hg : w.grownBy w' row) (hne : ∀ k, row = some k → w.heap.size ≤ k ∨ ∀ b, a = some b → b.block < k) : Rd w' a xs := by
  rcases h with rfl | ⟨b, o, rfl, hb, hc⟩
  · exact .inl rfl
  · refine .inr ⟨b, o, rfl, Nat.lt_of_lt_of_le hb hg.size, fun k v hv => (World.cell?_of_block (hg.block b hb (fun e => ?_))).trans (hc k v hv)⟩
    rcases hne _ e.symm with h | h
    · omega
    · have := h _ rfl; simp at this
theorem Rd.lt {w : World} {a : Option Addr} {xs : List Value} (h : Rd w a xs) (hn : xs ≠ []) : ∀ b, a = some b → b.block < w.heap.size := by
  rcases h with rfl | ⟨b, o, rfl, hb, hc⟩
  · exact absurd rfl hn
  · intro b' hb'; injection hb' with hb'; subst hb'; exact hb
namespace bitioBack
set_option maxRecDepth 100000 in
theorem walk (a0 : Int) (a1 : Option Addr) (len1 cap1 : Nat) (z1 : List Int) (w : World) (w0 : (Lit.int .u64 a0).wf = true) (w1 : IsRow .u8 w a1 len1 cap1 z1) :
    Calls Try.prog 7 #[.int .u64 a0, .slice a1 len1 cap1] w fun e w' => e = .returned (.bool true) ∧ Below w.heap.size w w' := by
  obtain ⟨l, hl, hr, hc, hm, hn⟩ := w1.bytes
  have HL := hide hl.symm
  have HR := hide hr
  have h0 := bounds_u64 w0
  obtain ⟨v, rfl⟩ := Int.eq_ofNat_of_zero_le h0.1
  have hv : v < 2 ^ 64 := by omega
  have HV := hide hv
  unfold maxLen at hm
  clear hl hr hn w0 hv h0 w1
  by_cases h2 : 30 < len1
  · go_enter Try.func7, Try.ntmps7
    go_wp2
    go_ret
    exact ⟨rfl, bl_refl _⟩
  · obtain ⟨i0, hi0, hz0, hz1, hz2⟩ := info_parts info_u8
    go_enter Try.func7, Try.ntmps7
    go_wp2_with fail
    refine (putuv_any none 0 0 _ [] v w rfl HV.out rfl (by decide) (Rd.nil _ _)).mono ?_
    rintro e w1 ⟨vb, rfl, hown, hb1⟩
    obtain ⟨hx1, b, d, rfl, hbd, hrd, hx2⟩ := own_form hown
    clear hx1 hx2 hown
    have HB := hide hrd
    have HBLT := hide (Rd.lt hrd (by have := (uvF_length 9 v).1; simp only [List.nil_append, ne_eq, List.map_eq_nil_iff]; intro h; unfold uv at h; rw [h] at this; simp at this))
    obtain ⟨n, hn⟩ : ∃ n, n = 0 + (uv v).length := ⟨_, rfl⟩
    have hn10 : n ≤ 10 := by rw [hn, Nat.zero_add]; exact (uvF_length 9 v).2
    rw [← hn] at hbd ⊢
    have HN := hide (show n = (uv v).length by rw [hn, Nat.zero_add])
    clear hn hrd
    go_wp2_with (first
      | (at_builtin; refine wpList_append_rd _ rfl (.const (.slice none 0 0)) (.tmp 19) 22 rfl w1.heap.size 5 i0 _ 1 1 Try.underlying22 hi0 hz0 hz1 hz2 rfl (by omega) (.slice none 0 0) 0 [] rfl ⟨rfl, .inl ⟨rfl, rfl⟩⟩ b n d ((uv v).map u8v) rfl (by rw [List.length_map, Nat.mul_one]; exact HN.out.symm) HB.out (u8s_one _) (by simp only [maxLen]; omega) (by omega) (Nat.le_refl _) ?_; intro v2 w2 hown2 hg2 hat2; rw [Nat.zero_add, List.nil_append] at hown2; obtain ⟨hx1, a2, c2, rfl, hx2, hx3, hx4⟩ := own_form hown2; have HO2 := hide hown2; have hb2 : Below w1.heap.size w1 w2 := bl_grown (bl_refl w1) hg2 (fun k h => by simp [Value.ownBlock] at h); clear hx1 hx2 hx3 hx4 hown2 hg2 hat2)
      | (at_builtin; go_loud (refine wpList_append_rd _ rfl (.tmp 20) (.tmp 21) 22 rfl w1.heap.size 5 i0 _ 1 1 Try.underlying22 hi0 hz0 hz1 hz2 rfl (by omega) (.slice a2 n c2) n ((uv v).map u8v) rfl HO2.out a1 len1 cap1 (l.map u8v) rfl (by rw [List.length_map, Nat.mul_one]; exact HL.out.symm) (HR.out.below (bl_trans hb1 hb2)) (u8s_one _) (by simp only [maxLen]; omega) (by omega) hb2.size ?_); intro v3 w3 hown3 hg3 hat3; rw [← List.map_append] at hown3; obtain ⟨hx1, a3, c3, rfl, hx2, hrd3, hx4⟩ := own_form hown3; have HR3 := hide hrd3; go_loud (have hb3 : Below w.heap.size w w3 := bl_grown (bl_trans hb1 hb2) hg3 (fun k h => by have := HO2.out.lt k h; have := hb1.size; omega); have HB3 := hide ((HB.out.below hb2).grown2 hg3 (fun k h => .inr fun b' hb' => by have h1 := HBLT.out b' hb'; have h2 := HO2.out.lt k h; omega)); clear hx1 hx2 hx4 hown3 hg3 hat3 hrd3)))
    refine (uvarint_any a3 (n + len1) c3 (uv v ++ l) w3 (by rw [List.length_append, ← HN.out, ← HL.out]) (by omega) HR3.out).mono ?_
    rintro e w' ⟨rfl, rfl⟩
    rw [dec_uv v l HV.out, ← HN.out]
    unfold decV
    simp only []
    rw [show ((0 : Nat) : Int) = 0 from rfl]
    go_wp2_with fail
    go_loop [9] (fun i => ∃ k : Nat, i = .int .i64 (k : Int) ∧ k ≤ n) (fun i => n - (intOf i).toNat)
    case atStart => exact ⟨0, rfl, Nat.zero_le _⟩
    case round =>
      obtain ⟨k, rfl, hk⟩ := hrel
      by_cases hlt : k < n
      · have g1 : (k : Int) ≤ d := by omega
        have HD := hide (show dec 0 0 ((uv v).take k) = (0, 0, 10) from dec_prefix 9 v 0 0 k (by omega) (by have := HN.out; unfold uv at this; omega))
        go_wp2_with fail
        refine (uvarint_any b k d ((uv v).take k) w3 (by rw [List.length_take, ← HN.out]; omega) (by omega) (BRd.take HB3.out k)).mono ?_
        rintro e w' ⟨rfl, rfl⟩
        rw [HD.out]
        unfold decV
        simp only []
        go_wp2
        go_round
        case rel => exact ⟨k + 1, by go_num, by omega⟩
        case measure => simp [intOf]; omega
      · go_wp2_with fail
        refine (awake_any _).mono ?_
        rintro e w6 ⟨rfl, hb6⟩
        go_wp2_with fail
        go_ret
        exact ⟨rfl, bl_trans hb3 hb6⟩
end bitioBack
end Go.Proofs.Ytimcbgcjnfdcaaa
