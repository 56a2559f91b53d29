/- The walks of the Reader's methods: Unary, gamma, Gamma, Delta, Pos, Seek. -/
import Derived.Test.YtbicpnhgokngeaaRd3W
namespace Go.Proofs.Ytbicpnhgokngeaa
open Go.RowKit
set_option linter.unusedVariables false
set_option linter.unusedSimpArgs false
def gamV (r : Nat × Nat × Nat) : Value := if r.2.2 = 0 then .tuple #[.int .u64 (r.1 : Int), .int .i64 (r.2.1 : Int), .int .i64 0] else .tuple #[.int .u64 0, .int .i64 0, .int .i64 (r.2.2 : Int)]
theorem gamV_ok (v q : Nat) : gamV (v, q, 0) = .tuple #[.int .u64 (v : Int), .int .i64 (q : Int), .int .i64 0] := rfl
theorem gamV_err (v q e : Nat) (h : e ≠ 0) : gamV (v, q, e) = .tuple #[.int .u64 0, .int .i64 0, .int .i64 (e : Int)] := if_neg h
set_option maxRecDepth 100000 in
theorem rgam_any (base g : Nat) (L : List Bool) (pos : Nat) (p : Int) (w : World) (hs : RdS w base g L pos) (hp0 : p = pos) :
    Calls Try.prog 33 #[.pointer (some ⟨g, 0, none⟩), .int .i64 p] w fun e w' => e = .returned (gamV (gammaM L pos)) ∧ w = w' := by
  subst hp0
  have HS := hide hs
  obtain ⟨c1, c2, cf, hp, hL⟩ := cells_of_rd hs
  clear hs
  obtain ⟨⟨z, er⟩, hz⟩ : ∃ r, r = zerosM L pos 63 := ⟨_, rfl⟩
  have hlen := zr_le 63 (L.drop pos) 0
  rw [show zr 63 (L.drop pos) 0 = (z, er) from hz.symm] at hlen
  simp only [List.length_drop] at hlen
  have HE := hide (show gammaM L pos = if er = 0 then (if L.length - pos < 2 * z + 1 then (0, pos, 10) else (takeM L (pos + z) (z + 1), pos + 2 * z + 1, 0)) else (0, pos, er) by unfold gammaM; rw [← hz])
  have HZ := hide hz
  clear hz
  go_enter Try.func33, Try.ntmps33
  go_wp2_with fail
  refine (zeros_rd base g L pos pos 63 _ _ w HS.out rfl rfl (by omega) hp).mono ?_
  rintro e w' ⟨rfl, rfl⟩
  rw [← HZ.out]
  simp only []
  by_cases h0 : er = 0
  · subst h0
    rw [if_pos rfl] at HE
    have hz2 : z ≤ 63 := by have := hlen.1; omega
    have hz3 : z < L.length - pos := by have := hlen.2 rfl; omega
    clear hlen
    go_wp2_with fail
    refine (take_rd base g L pos (pos + z) (z + 1) _ _ w HS.out (by simp) (by simp) (by omega) (by omega)).mono ?_
    rintro e w' ⟨rfl, rfl⟩
    by_cases h3 : L.length - pos < 2 * z + 1
    · rw [if_pos (by omega)]
      rw [if_pos h3] at HE
      go_wp2
      go_ret3
      rw [HE.out, gamV_err _ _ _ (by decide)]
      exact ⟨rfl, rfl⟩
    · rw [if_neg (by omega)]
      rw [if_neg h3] at HE
      obtain ⟨v, hv⟩ : ∃ v, v = takeM L (pos + z) (z + 1) := ⟨_, rfl⟩
      rw [← hv] at HE ⊢
      obtain ⟨q, hq⟩ : ∃ q, q = pos + 2 * z + 1 := ⟨_, rfl⟩
      rw [← hq] at HE
      have eq : (pos : Int) + 2 * (z : Int) + 1 = (q : Int) := by omega
      clear hv hq
      go_wp2
      go_ret3
      rw [HE.out, gamV_ok]
      exact ⟨rfl, rfl⟩
  · rw [if_neg h0] at HE
    have t0 : ((er : Int) == 0) = false := by rw [beq_eq_false_iff_ne]; omega
    clear hlen
    go_wp2
    go_ret3
    rw [HE.out, gamV_err _ _ _ h0]
    exact ⟨rfl, rfl⟩
theorem gammaM_le (L : List Bool) (pos : Nat) (h : pos ≤ L.length) : (gammaM L pos).2.1 ≤ L.length ∧ (gammaM L pos).1 < 2 ^ 64 := by
  have hlen := zr_le 63 (L.drop pos) 0
  have hz : zr 63 (L.drop pos) 0 = zerosM L pos 63 := rfl
  rw [hz] at hlen
  unfold gammaM
  split
  · split
    · exact ⟨h, by show 0 < 2 ^ 64; decide⟩
    · refine ⟨by simp only []; omega, ?_⟩
      simp only []
      unfold takeM
      exact Nat.lt_of_lt_of_le (numB_lt _) (Nat.pow_le_pow_right (by decide) (by simp; omega))
  · exact ⟨h, by show 0 < 2 ^ 64; decide⟩
theorem or_pow (b v : Nat) (hb : b ≤ 63) (hv : v < 2 ^ b) : bits .or .u64 ((2 ^ b : Nat) : Int) (v : Int) = ((2 ^ b + v : Nat) : Int) := by
  have h63 : 2 ^ b ≤ 2 ^ 63 := Nat.pow_le_pow_right (by decide) hb
  rw [u64_or _ _ (by omega) (by omega) (by omega) (by omega), Int.toNat_natCast, Int.toNat_natCast]
  have := Nat.two_pow_add_eq_or_of_lt (i := b) (a := 1) hv
  rw [Nat.mul_one] at this
  rw [this]
theorem gammaM_pos (L : List Bool) (pos : Nat) (h : (gammaM L pos).2.2 = 0) : 1 ≤ (gammaM L pos).1 := by
  obtain ⟨⟨z, er⟩, hz⟩ : ∃ r, r = zerosM L pos 63 := ⟨_, rfl⟩
  unfold gammaM at h ⊢
  rw [← hz] at h ⊢
  by_cases h0 : er = 0
  · rw [if_pos h0] at h ⊢
    by_cases h3 : L.length - pos < 2 * z + 1
    · rw [if_pos h3] at h; simp at h
    · rw [if_neg h3]
      show 1 ≤ numB ((L.drop (pos + z)).take (z + 1))
      -- the bit in front is 1
      have key : ∀ (m : Nat) (l : List Bool) (n k : Nat), zr m l n = (k, 0) → n ≤ k ∧ l[k - n]? = some true := by
        intro m
        induction m with
        | zero =>
          intro l n k h
          match l, h with
          | true :: l, h => simp [zr] at h; subst h; simp
          | false :: l, h => simp [zr] at h
        | succ m ih =>
          intro l n k h
          match l, h with
          | true :: l, h => simp [zr] at h; subst h; simp
          | false :: l, h =>
            simp only [zr] at h
            obtain ⟨h1, h2⟩ := ih l (n + 1) k h
            refine ⟨by omega, ?_⟩
            rw [show k - n = (k - (n + 1)) + 1 by omega]
            simpa using h2
      have hk := (key 63 (L.drop pos) 0 z (by rw [h0] at hz; exact hz.symm)).2
      rw [Nat.sub_zero, List.getElem?_drop] at hk
      obtain ⟨hl, he⟩ := List.getElem?_eq_some_iff.1 hk
      rw [List.drop_eq_getElem_cons hl, he, List.take_succ_cons]
      show 1 ≤ numF 1 _
      have mono : ∀ (l : List Bool) (v : Nat), 1 ≤ v → 1 ≤ numF v l := by
        intro l
        induction l with
        | nil => intro v h; exact h
        | cons x l ih => intro v h; exact ih _ (by show 1 ≤ 2 * v + x.toNat; omega)
      exact mono _ _ (Nat.le_refl _)
  · rw [if_neg h0] at h; exact absurd h h0
set_option maxRecDepth 100000 in
theorem rdelta_any (base g : Nat) (L : List Bool) (pos : Nat) (w : World) (hs : RdS w base g L pos) :
    Calls Try.prog 28 #[.pointer (some ⟨g, 0, none⟩)] w fun e w' => e = .returned (tup2 (deltaM L pos)) ∧ RStep base g L w (deltaM L pos).2.1 w' ∧ (w' = w ∨ ∃ q : Int, w' = w.setCell ⟨g, 2, none⟩ (.int .i64 q)) := by
  have HS := hide hs
  obtain ⟨c1, c2, cf, hp, hL⟩ := cells_of_rd hs
  have hle := gammaM_le L pos hp
  have hpos := gammaM_pos L pos
  clear hs
  go_enter Try.func28, Try.ntmps28
  go_wp2_with fail
  refine (rgam_any base g L pos pos w HS.out rfl).mono ?_
  rintro e w' ⟨rfl, rfl⟩
  obtain ⟨⟨v, q, er⟩, hr⟩ : ∃ r, r = gammaM L pos := ⟨_, rfl⟩
  have HE := hide (show deltaM L pos = if er = 0 then (if 64 < v then (0, pos, 9) else if L.length - q < v - 1 then (0, pos, 10) else (2 ^ (v - 1) + takeM L q (v - 1), q + (v - 1), 0)) else (0, pos, er) by unfold deltaM; rw [← hr])
  rw [← hr] at hle hpos ⊢
  simp only [] at hle hpos
  clear hr
  by_cases h0 : er = 0
  · subst h0
    rw [gamV_ok]
    rw [if_pos rfl] at HE
    have hv1 := hpos rfl
    have hq := hle.1
    have HV := hide hle.2
    clear hle hpos
    by_cases h64 : 64 < v
    · rw [if_pos h64] at HE
      have h64' : (64 : Int) < v := by omega
      go_wp2
      go_ret2
      rw [HE.out]
      exact ⟨rfl, RStep.refl HS.out, .inl rfl⟩
    · rw [if_neg h64] at HE
      have h64' : ¬ (64 : Int) < v := by omega
      obtain ⟨b, rfl⟩ : ∃ b, v = b + 1 := ⟨v - 1, by omega⟩
      have hb : b ≤ 63 := by omega
      rw [Nat.add_sub_cancel] at HE
      have e1 : ((b + 1 : Nat) : Int) - 1 = b := by omega
      go_wp2_with fail
      refine (take_rd base g L pos q b _ _ w HS.out rfl (by simp) (by omega) hq).mono ?_
      rintro e w' ⟨rfl, rfl⟩
      by_cases h3 : L.length - q < b
      · rw [if_pos h3]
        rw [if_pos h3] at HE
        go_wp2
        go_ret2
        rw [HE.out]
        exact ⟨rfl, RStep.refl HS.out, .inl rfl⟩
      · rw [if_neg h3]
        rw [if_neg h3] at HE
        obtain ⟨y, hy⟩ : ∃ y, y = takeM L q b := ⟨_, rfl⟩
        have hyl : y < 2 ^ b := by
          rw [hy]
          exact Nat.lt_of_lt_of_le (numB_lt _) (Nat.pow_le_pow_right (by decide) (by simp; omega))
        rw [← hy] at HE ⊢
        obtain ⟨t, ht⟩ : ∃ t, t = q + b := ⟨_, rfl⟩
        rw [← ht] at HE
        have et : (q : Int) + b = (t : Int) := by omega
        have HST := hide (RStep.set HS.out (show t ≤ L.length by omega))
        obtain ⟨P2, hP2⟩ : ∃ P2, P2 = 2 ^ b := ⟨_, rfl⟩
        obtain ⟨s, hs⟩ : ∃ s, s = P2 + y := ⟨_, rfl⟩
        have h63 : P2 ≤ 2 ^ 63 := by rw [hP2]; exact Nat.pow_le_pow_right (by decide) hb
        have ep : IntKind.u64.wrap ((2 : Int) ^ b) = (P2 : Int) := by
          have e : ((2 : Int) ^ b) = ((2 ^ b : Nat) : Int) := by simp
          rw [e, ← hP2, IntKind.wrap_u64]; omega
        have eo : bits .or .u64 (P2 : Int) (y : Int) = (s : Int) := by rw [hs, hP2]; exact or_pow b y hb hyl
        rw [← hP2, ← hs] at HE
        clear hy hyl ht hP2 hs h63
        go_wp2
        go_ret2
        rw [HE.out]
        exact ⟨rfl, HST.out, .inr ⟨_, rfl⟩⟩
  · rw [gamV_err _ _ _ h0]
    rw [if_neg h0] at HE
    have t0 : ((er : Int) == 0) = false := by rw [beq_eq_false_iff_ne]; omega
    clear hle hpos
    go_wp2
    go_ret2
    rw [HE.out]
    exact ⟨rfl, RStep.refl HS.out, .inl rfl⟩
end Go.Proofs.Ytbicpnhgokngeaa
