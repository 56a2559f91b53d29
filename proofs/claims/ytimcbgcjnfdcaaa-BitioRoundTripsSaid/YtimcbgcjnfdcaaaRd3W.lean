/- The walks of the Reader's methods. -/
import Derived.Test.YtimcbgcjnfdcaaaRd2W
namespace Go.Proofs.Ytimcbgcjnfdcaaa
open Go.RowKit
set_option linter.unusedVariables false
set_option linter.unusedSimpArgs false
/-- Only block g may have turned, at its position. -/
def RStep (base g : Nat) (L : List Bool) (w : World) (pos : Nat) (w' : World) : Prop := RdS w' base g L pos ∧ w'.heap.size = w.heap.size ∧ w'.os = w.os ∧ w'.tape = w.tape ∧ w'.output = w.output ∧ ∀ k, k ≠ g → w'.heap[k]? = w.heap[k]?
theorem RStep.refl {base g : Nat} {L : List Bool} {w : World} {pos : Nat} (h : RdS w base g L pos) : RStep base g L w pos w := ⟨h, rfl, rfl, rfl, rfl, fun _ _ => rfl⟩
theorem RStep.set {base g : Nat} {L : List Bool} {w : World} {pos pos' : Nat} (h : RdS w base g L pos) (hp : pos' ≤ L.length) : RStep base g L w pos' (w.setCell ⟨g, 2, none⟩ (.int .i64 (pos' : Int))) :=
  ⟨h.set hp, by simp [World.setCell], rfl, rfl, rfl, fun k hk => heap_setCell_other w ⟨g, 2, none⟩ k _ hk⟩
theorem RStep.below {base g : Nat} {L : List Bool} {w w' : World} {pos : Nat} (h : RStep base g L w pos w') (hg : base ≤ g) : Below base w w' :=
  ⟨h.2.2.1, h.2.2.2.1, h.2.2.2.2.1, by rw [h.2.1]; exact Nat.le_refl _, fun k hk => h.2.2.2.2.2 k (by omega)⟩
def tup2 (r : Nat × Nat × Nat) : Value := .tuple #[.int .u64 (r.1 : Int), .int .i64 (r.2.2 : Int)]
theorem cells_of_rd {w : World} {base g : Nat} {L : List Bool} {pos : Nat} (h : RdS w base g L pos) :
    w.cell? ⟨g, 1, none⟩ = some (.int .i64 (L.length : Int)) ∧ w.cell? ⟨g, 2, none⟩ = some (.int .i64 (pos : Int)) ∧ w.frozen? ⟨g, 2, none⟩ = false ∧ pos ≤ L.length ∧ L.length ≤ 100000 := by
  obtain ⟨A, m, c, p, h1, h2, h3, h4, h5, h6, h7, h8, h9⟩ := h
  exact ⟨cell_of_row w g 1 _ _ _ h1, cell_of_row w g 2 _ _ _ h1, frozen_of_row w g 2 _ _ h1, h8, h9⟩
set_option maxRecDepth 100000 in
theorem rbits_any (base g : Nat) (L : List Bool) (pos : Nat) (n : Int) (w : World) (hs : RdS w base g L pos) :
    Calls Try.prog 34 #[.pointer (some ⟨g, 0, none⟩), .int .i64 n] w fun e w' => e = .returned (tup2 (bitsM L pos n)) ∧ RStep base g L w (bitsM L pos n).2.1 w' := by
  have HS := hide hs
  obtain ⟨c1, c2, cf, hp, hL⟩ := cells_of_rd hs
  obtain ⟨N, hN⟩ : ∃ N, N = L.length := ⟨_, rfl⟩
  rw [← hN] at c1 hp hL
  have HN := hide hN
  clear hN hs
  have HE := hide (show bitsM L pos n = if n < 0 ∨ 64 < n then (0, pos, 1) else if L.length - pos < n.toNat then (0, pos, 10) else (takeM L pos n.toNat, pos + n.toNat, 0) from rfl)
  go_enter Try.func34, Try.ntmps34
  by_cases h1 : n < 0
  · go_wp2
    go_ret2
    rw [HE.out, if_pos (.inl h1)]
    exact ⟨rfl, RStep.refl HS.out⟩
  by_cases h2 : 64 < n
  · go_wp2
    go_ret2
    rw [HE.out, if_pos (.inr h2)]
    exact ⟨rfl, RStep.refl HS.out⟩
  obtain ⟨m, rfl⟩ := Int.eq_ofNat_of_zero_le (show 0 ≤ n by omega)
  have hm : m ≤ 64 := by omega
  rw [if_neg (by omega), Int.toNat_natCast] at HE
  go_wp2_with fail
  refine (take_rd base g L pos pos m _ _ w HS.out rfl rfl hm (by rw [← HN.out]; exact hp)).mono ?_
  rintro e w' ⟨rfl, rfl⟩
  rw [← HN.out] at HE ⊢
  by_cases h3 : N - pos < m
  · rw [if_pos h3]
    rw [if_pos h3] at HE
    go_wp2
    go_ret2
    rw [HE.out]
    exact ⟨rfl, RStep.refl HS.out⟩
  · rw [if_neg h3]
    rw [if_neg h3] at HE
    obtain ⟨v, hv⟩ : ∃ v, v = takeM L pos m := ⟨_, rfl⟩
    rw [← hv] at HE ⊢
    obtain ⟨q, hq⟩ : ∃ q, q = pos + m := ⟨_, rfl⟩
    rw [← hq] at HE
    have eq : (pos : Int) + m = (q : Int) := by omega
    have HST := hide (RStep.set HS.out (show q ≤ L.length by rw [← HN.out]; omega))
    clear hv hq
    go_wp2
    go_ret2
    rw [HE.out]
    exact ⟨rfl, HST.out⟩
end Go.Proofs.Ytimcbgcjnfdcaaa
