/- The walk of the reference's Read: gamma and delta. -/
import Derived.Test.YtnflffhmnbjelaaReadW
namespace Go.Proofs.Ytnflffhmnbjelaa
open Go.RowKit
set_option linter.unusedVariables false
set_option linter.unusedSimpArgs false
def callCells (c : Int × Nat × Int) : List Value := [.int .i64 c.1, .int .u64 (c.2.1 : Int), .int .i64 c.2.2]
theorem num_slice2 {w : World} {A : Option Addr} {L : List Bool} {len : Nat} (h : Rd w A (L.map Value.bool)) (hl : len = L.length) (lo hi c m : Nat) (h1 : lo ≤ hi) (h2 : hi ≤ len) (h3 : hi ≤ c) (hm : hi - lo = m) (h64 : m ≤ 64) (hne : c ≠ lo) :
    Calls Try.prog 58 #[.slice (Option.map (fun x => x.add lo) A) (hi - lo) (c - lo)] w fun e w' => e = .returned (.int .u64 (takeM L lo m : Int)) ∧ w = w' := by
  have := num_slice h hl lo hi c m h1 h2 h3 hm h64
  rwa [if_neg hne] at this
set_option maxHeartbeats 2000000 in
set_option maxRecDepth 100000 in
theorem read_ref23 (A : Option Addr) (len c : Nat) (L : List Bool) (at_ : Nat) (k v n : Int) (w : World) (hn : len = L.length) (hc : len ≤ c) (hn5 : len ≤ 100000) (hr : Rd w A (L.map Value.bool)) (hat : at_ ≤ len) (h0 : k ≠ 0) (h1 : k ≠ 1) :
    Calls Try.prog 45 #[.slice A len c, .int .i64 (at_ : Int), .agg #[.int .i64 k, .int .u64 v, .int .i64 n]] w fun e w' => e = .returned (tup3 (readM L at_ k n)) ∧ Below w.heap.size w w' := by
  have HN := hide hn
  have HR := hide hr
  clear hn hr
  go_enter Try.func45, Try.ntmps45
  have t0 : (k == 0) = false := by rw [beq_eq_false_iff_ne]; exact h0
  have t1 : (k == 1) = false := by rw [beq_eq_false_iff_ne]; exact h1
  obtain ⟨⟨z, er⟩, hz⟩ : ∃ r, r = zerosM L at_ 63 := ⟨_, rfl⟩
  have hlen := zr_le 63 (L.drop at_) 0
  rw [show zr 63 (L.drop at_) 0 = (z, er) from hz.symm] at hlen
  simp only [List.length_drop] at hlen
  have HG := hide (show gammaM L at_ = if er = 0 then (if len - at_ < 2 * z + 1 then (0, at_, 10) else (takeM L (at_ + z) (z + 1), at_ + 2 * z + 1, 0)) else (0, at_, er) by rw [HN.out]; unfold gammaM; rw [← hz])
  have HD := hide (show deltaM L at_ = if (gammaM L at_).2.2 = 0 then (if 64 < (gammaM L at_).1 then (0, at_, 9) else if len - (gammaM L at_).2.1 < (gammaM L at_).1 - 1 then (0, at_, 10) else (2 ^ ((gammaM L at_).1 - 1) + takeM L (gammaM L at_).2.1 ((gammaM L at_).1 - 1), (gammaM L at_).2.1 + ((gammaM L at_).1 - 1), 0)) else (0, at_, (gammaM L at_).2.2) by rw [HN.out]; rfl)
  have HK := hide (show readM L at_ k n = if k = 2 then gammaM L at_ else deltaM L at_ by unfold readM; rw [if_neg h0, if_neg h1])
  have HZ := hide hz
  have hz2 : z ≤ 63 := by have := hlen.1; omega
  have hz3 : er = 0 → z < len - at_ := fun h => by have := hlen.2 h; rw [HN.out]; omega
  have hgp := gammaM_pos L at_
  have hgl := gammaM_le L at_ (by rw [← HN.out]; exact hat)
  have HGP := hide (And.intro hgp hgl)
  obtain ⟨W, hW⟩ : ∃ W, W = w.alloc (.cells #[.int .i64 k, .int .u64 v, .int .i64 n] 74) := ⟨_, rfl⟩
  have hbW : Below w.heap.size w W := by rw [hW]; exact bl_alloc (bl_refl w) _
  have hcell : ∀ j u, (callCells (k, 0, n))[j]? = some u → j ≠ 1 → W.cell? ⟨w.heap.size, j, none⟩ = some u := fun j u hu h1 => by
    rw [hW, cell_of_row _ _ j _ _ (0, 0) (heap_alloc_new w _)]
    match j, hu, h1 with
    | 0, hu, _ => simpa [callCells] using hu
    | 2, hu, _ => simpa [callCells] using hu
    | j + 3, hu, _ => simp [callCells] at hu
  have d0 := hcell 0 _ rfl (by decide)
  clear hz hlen h0 h1 hgp hgl hcell
  go_wp2_with fail
  rw [← hW]
  refine (zeros_ref A len c L at_ 63 _ _ W HN.out hn5 (HR.out.below hbW) rfl rfl (by omega) hat).mono ?_
  rintro e w' ⟨rfl, rfl⟩
  rw [← HZ.out]
  simp only []
  clear hW
  by_cases he : er = 0
  · subst he
    have hz4 := hz3 rfl
    rw [if_pos rfl] at HG
    clear hz3
    by_cases h3 : len - at_ < 2 * z + 1
    · have g3 : (len : Int) - at_ < 2 * (z : Int) + 1 := by omega
      have e1 : readM L at_ k n = (0, at_, 10) := by
        have hg := HG.out
        rw [if_pos h3] at hg
        rw [HK.out, HD.out, hg]
        simp
      have HE := hide e1
      clear e1
      go_wp2
      go_ret3
      rw [HE.out]
      exact ⟨rfl, hbW⟩
    · have g3 : ¬ (len : Int) - at_ < 2 * (z : Int) + 1 := by omega
      have hg := HG.out
      rw [if_neg h3] at hg
      obtain ⟨lo, hlo⟩ : ∃ lo, lo = at_ + z := ⟨_, rfl⟩
      obtain ⟨hi, hhi⟩ : ∃ hi, hi = at_ + 2 * z + 1 := ⟨_, rfl⟩
      obtain ⟨y, hy⟩ : ∃ y, y = takeM L lo (z + 1) := ⟨_, rfl⟩
      rw [← hlo, ← hhi, ← hy] at hg
      have el : (at_ : Int) + z = (lo : Int) := by omega
      have eh : (at_ : Int) + 2 * (z : Int) + 1 = (hi : Int) := by omega
      have gl : (lo : Int) ≤ hi := by omega
      have gh : (hi : Int) ≤ c := by omega
      have hlh : lo ≤ hi ∧ hi ≤ len ∧ hi ≤ c ∧ hi - lo = z + 1 := by omega
      have HLH := hide hlh
      have HGV := hide hg
      have HYY := hide hy
      have hhl : hi ≤ len := hlh.2.1
      have hy1 : 1 ≤ y := by have := HGP.out.1 (by rw [hg]); rw [hg] at this; exact this
      have hy64 : y < 2 ^ 64 := by have := HGP.out.2.2; rw [hg] at this; exact this
      have HY64 := hide hy64
      clear hg hlo hhi hlh hy hy64
      go_wp2_with fail
      refine (num_slice2 (HR.out.below hbW) HN.out lo hi c (z + 1) HLH.out.1 HLH.out.2.1 HLH.out.2.2.1 HLH.out.2.2.2 (by omega) (by have := HLH.out; omega)).mono ?_
      rintro e w' ⟨rfl, rfl⟩
      rw [← HYY.out]
      generalize Option.map (fun x => x.add lo) A = A2
      by_cases hk2 : k = 2
      · have e1 : readM L at_ k n = (y, hi, 0) := by rw [HK.out, if_pos hk2, HGV.out]
        have HE := hide e1
        subst hk2
        clear e1
        go_wp2
        go_ret3
        rw [HE.out]
        exact ⟨rfl, hbW⟩
      · have t2 : (k == 2) = false := by rw [beq_eq_false_iff_ne]; exact hk2
        have e1 : readM L at_ k n = (if 64 < y then (0, at_, 9) else if len - hi < y - 1 then (0, at_, 10) else (2 ^ (y - 1) + takeM L hi (y - 1), hi + (y - 1), 0)) := by
          rw [HK.out, if_neg hk2, HD.out, HGV.out, if_pos rfl]
        have HE := hide e1
        clear e1 hk2
        by_cases h64 : 64 < y
        · have g64 : (64 : Int) < y := by omega
          rw [if_pos h64] at HE
          go_wp2
          go_ret3
          rw [HE.out]
          exact ⟨rfl, hbW⟩
        · rw [if_neg h64] at HE
          have g64 : ¬ (64 : Int) < y := by omega
          obtain ⟨b, rfl⟩ : ∃ b, y = b + 1 := ⟨y - 1, by omega⟩
          have hb63 : b ≤ 63 := by omega
          rw [Nat.add_sub_cancel] at HE
          have e1 : ((b + 1 : Nat) : Int) - 1 = b := by omega
          by_cases h5 : len - hi < b
          · rw [if_pos h5] at HE
            have g5 : (len : Int) - hi < b := by omega
            go_wp2
            go_ret3
            rw [HE.out]
            exact ⟨rfl, hbW⟩
          · rw [if_neg h5] at HE
            have g5 : ¬ (len : Int) - hi < b := by omega
            have hrA : ¬ c = hi → Rd W (Option.map (fun x => x.add hi) A) (((L.drop hi).take b).map Value.bool) := fun hne => by
              have := (HR.out.below hbW).slice hi (hi + b) c (by omega) (by rw [List.length_map, ← HN.out]; omega) (by omega)
              rw [if_neg hne, Nat.add_sub_cancel_left, ← List.map_drop, ← List.map_take] at this
              exact this
            have hrB : b = 0 → Rd W A (((L.drop hi).take b).map Value.bool) := fun h => by subst h; exact .inl (by simp)
            have hlb : b = ((L.drop hi).take b).length := by have := HN.out; simp; omega
            have HRAB := hide (And.intro hrA (And.intro hrB hlb))
            obtain ⟨y, hy⟩ : ∃ y, y = takeM L hi b := ⟨_, rfl⟩
            have hyl : y < 2 ^ b := by
              rw [hy]
              exact Nat.lt_of_lt_of_le (numB_lt _) (Nat.pow_le_pow_right (by decide) (by simp; omega))
            rw [← hy] at HE
            obtain ⟨P2, hP2⟩ : ∃ P2, P2 = 2 ^ b := ⟨_, rfl⟩
            obtain ⟨s, hs⟩ : ∃ s, s = P2 + y := ⟨_, rfl⟩
            have h63 : P2 ≤ 2 ^ 63 := by rw [hP2]; exact Nat.pow_le_pow_right (by decide) hb63
            have ep : IntKind.u64.wrap ((2 : Int) ^ b) = (P2 : Int) := by
              have e : ((2 : Int) ^ b) = ((2 ^ b : Nat) : Int) := by simp
              rw [e, ← hP2, IntKind.wrap_u64]; omega
            have eo : bits .or .u64 (P2 : Int) (y : Int) = (s : Int) := by rw [hs, hP2]; exact or_pow b y hb63 hyl
            rw [← hP2, ← hs] at HE
            have HY := hide hy
            clear hyl hP2 hs h63 hrA hrB hlb hy
            go_wp2_with fail
            all_goals
              refine (number_ref _ b _ ((L.drop hi).take b) W HRAB.out.2.2 (by omega) (by first | exact HRAB.out.1 (by assumption) | exact HRAB.out.2.1 (by omega))).mono ?_
              rintro e w' ⟨rfl, rfl⟩
              rw [show numB ((L.drop hi).take b) = y from HY.out.symm]
              try generalize Option.map (fun x => x.add hi) A = A3
              go_wp2
              go_ret3
              rw [HE.out]
              exact ⟨rfl, hbW⟩
  · rw [if_neg he] at HG
    have te : ((er : Int) == 0) = false := by rw [beq_eq_false_iff_ne]; omega
    have e1 : readM L at_ k n = (0, at_, er) := by
      rw [HK.out, HD.out, HG.out, if_neg he]; simp
    have HE := hide e1
    clear e1 hz3
    go_wp2
    go_ret3
    rw [HE.out]
    exact ⟨rfl, hbW⟩
theorem read_ref (A : Option Addr) (len c : Nat) (L : List Bool) (at_ : Nat) (k v n : Int) (w : World) (hn : len = L.length) (hc : len ≤ c) (hn5 : len ≤ 100000) (hr : Rd w A (L.map Value.bool)) (hat : at_ ≤ len) :
    Calls Try.prog 45 #[.slice A len c, .int .i64 (at_ : Int), .agg #[.int .i64 k, .int .u64 v, .int .i64 n]] w fun e w' => e = .returned (tup3 (readM L at_ k n)) ∧ Below w.heap.size w w' := by
  by_cases h0 : k = 0
  · exact read_ref01 A len c L at_ k v n w hn hc hn5 hr hat (.inl h0)
  by_cases h1 : k = 1
  · exact read_ref01 A len c L at_ k v n w hn hc hn5 hr hat (.inr h1)
  exact read_ref23 A len c L at_ k v n w hn hc hn5 hr hat h0 h1
end Go.Proofs.Ytnflffhmnbjelaa
