/- The walk of the reference's Read. -/
import Derived.Test.YtnflffhmnbjelaaRRdW
namespace Go.Proofs.Ytnflffhmnbjelaa
open Go.RowKit
set_option linter.unusedVariables false
set_option linter.unusedSimpArgs false
def tup3 (r : Nat × Nat × Nat) : Value := .tuple #[.int .u64 (r.1 : Int), .int .i64 (r.2.1 : Int), .int .i64 (r.2.2 : Int)]
theorem Rd.slice {w : World} {A : Option Addr} {xs : List Value} (h : Rd w A xs) (lo hi c : Nat) (h1 : lo ≤ hi) (h2 : hi ≤ xs.length) (h3 : hi ≤ c) : Rd w (if c = lo then A else Option.map (fun x => x.add lo) A) ((xs.drop lo).take (hi - lo)) := by
  rcases h with rfl | ⟨b, o, rfl, hb, hc⟩
  · exact .inl (by simp)
  · by_cases hcl : c = lo
    · refine .inl ?_
      rw [show hi - lo = 0 by omega]; simp
    · rw [if_neg hcl]
      refine .inr ⟨b, o + lo, by simp [Addr.add_lit], hb, fun k v hv => ?_⟩
      rw [List.getElem?_take] at hv
      split at hv
      · rw [List.getElem?_drop] at hv
        rw [Nat.add_assoc]; exact hc _ v hv
      · cases hv
theorem num_slice {w : World} {A : Option Addr} {L : List Bool} {len : Nat} (h : Rd w A (L.map Value.bool)) (hl : len = L.length) (lo hi c m : Nat) (h1 : lo ≤ hi) (h2 : hi ≤ len) (h3 : hi ≤ c) (hm : hi - lo = m) (h64 : m ≤ 64) :
    Calls Try.prog 58 #[.slice (if c = lo then A else Option.map (fun x => x.add lo) A) (hi - lo) (c - lo)] w fun e w' => e = .returned (.int .u64 (takeM L lo m : Int)) ∧ w = w' := by
  have hr := h.slice lo hi c h1 (by simp; omega) h3
  rw [hm, ← List.map_drop, ← List.map_take] at hr
  rw [hm]
  exact number_ref _ m _ ((L.drop lo).take m) w (by simp; omega) h64 hr
set_option maxHeartbeats 1000000 in
set_option maxRecDepth 100000 in
theorem read_ref01 (A : Option Addr) (len c : Nat) (L : List Bool) (at_ : Nat) (k v n : Int) (w : World) (hn : len = L.length) (hc : len ≤ c) (hn5 : len ≤ 100000) (hr : Rd w A (L.map Value.bool)) (hat : at_ ≤ len) (hk01 : k = 0 ∨ k = 1) :
    Calls Try.prog 45 #[.slice A len c, .int .i64 (at_ : Int), .agg #[.int .i64 k, .int .u64 v, .int .i64 n]] w fun e w' => e = .returned (tup3 (readM L at_ k n)) ∧ Below w.heap.size w w' := by
  have HN := hide hn
  have HR := hide hr
  clear hn hr
  go_enter Try.func45, Try.ntmps45
  by_cases h0 : k = 0
  · subst h0
    have HE := hide (show readM L at_ 0 n = if n < 0 ∨ 64 < n then (0, at_, 1) else if L.length - at_ < n.toNat then (0, at_, 10) else (takeM L at_ n.toNat, at_ + n.toNat, 0) from rfl)
    rw [← HN.out] at HE
    by_cases h1 : n < 0
    · go_wp2
      go_ret3
      rw [HE.out, if_pos (.inl h1)]
      exact ⟨rfl, bl_alloc (bl_refl w) _⟩
    by_cases h2 : 64 < n
    · go_wp2
      go_ret3
      rw [HE.out, if_pos (.inr h2)]
      exact ⟨rfl, bl_alloc (bl_refl w) _⟩
    obtain ⟨m, rfl⟩ := Int.eq_ofNat_of_zero_le (show 0 ≤ n by omega)
    have hm : m ≤ 64 := by omega
    rw [if_neg (by omega), Int.toNat_natCast] at HE
    by_cases h3 : len - at_ < m
    · rw [if_pos h3] at HE
      have g3 : (len : Int) - at_ < m := by omega
      go_wp2
      go_ret3
      rw [HE.out]
      exact ⟨rfl, bl_alloc (bl_refl w) _⟩
    · rw [if_neg h3] at HE
      have g3 : ¬ (len : Int) - at_ < m := by omega
      obtain ⟨W, hW⟩ : ∃ W, W = w.alloc (.cells #[.int .i64 0, .int .u64 v, .int .i64 (m : Int)] 74) := ⟨_, rfl⟩
      have hbW : Below w.heap.size w W := by rw [hW]; exact bl_alloc (bl_refl w) _
      have c2 : W.cell? ⟨w.heap.size, 2, none⟩ = some (.int .i64 (m : Int)) := by rw [hW, cell_of_row _ _ 2 _ _ (0, 0) (heap_alloc_new w _)]; rfl
      go_wp2_with fail
      rw [← hW]
      obtain ⟨t, ht⟩ : ∃ t, t = at_ + m := ⟨_, rfl⟩
      have et : IntKind.i64.wrap ((at_ : Int) + m) = (t : Int) := by rw [IntKind.wrap_i64]; omega
      have g4 : (at_ : Int) ≤ t := by omega
      have g5 : (t : Int) ≤ c := by omega
      have HT := hide ht
      clear ht hW
      refine wp_region_K 15 (by kernel_rfl) (by kernel_rfl) (fun Q HQ => ?_)
      simp only [List.take_succ_cons, List.take_zero, List.map_cons, List.map_nil]
      have f2 : ∀ wx, CB W.drew wx → wx.cell? ⟨w.heap.size, 2, none⟩ = some (.int .i64 (m : Int)) := fun wx h => h.cell c2
      repeat
        first | apply wpS_c rfl | apply wpS_gc rfl (guard_mk rfl rfl)
        focus
          intro ev wx hC hx
          (try simp [Op.operands, Call.operands, opndS, Slot.holds] at hx)
          go_simp
          try (first | exact rfl | exact ⟨Below.refl _ _, rfl⟩)
          done
        dsimp only [setS, List.set]
      apply wpS_c rfl
      focus
        intro ev wx hC hx
        (try simp [Op.operands, Call.operands, opndS, Slot.holds] at hx)
        go_simp
        refine (num_slice ((HR.out.below hbW).below hC.below) HN.out at_ t c m (by have := HT.out; omega) (by have := HT.out; omega) (by have := HT.out; omega) (by have := HT.out; omega) hm).mono ?_; rintro e w' ⟨rfl, rfl⟩; exact ⟨rfl, bl_refl _⟩
      dsimp only [setS, List.set]
      repeat
        first | apply wpS_c rfl | apply wpS_gc rfl (guard_mk rfl rfl)
        focus
          intro ev wx hC hx
          (try simp [Op.operands, Call.operands, opndS, Slot.holds] at hx)
          go_simp
          try (first | exact rfl | exact ⟨Below.refl _ _, rfl⟩)
          done
        dsimp only [setS, List.set]
      refine wpS_nil (HQ _ fun w3 hC3 => ?_)
      simp only [closeS, List.drop_succ_cons, List.drop_zero, List.drop_nil]
      clear HQ f2
      have hb3 := bl_trans hbW hC3.below
      generalize (if c = at_ then A else Option.map (fun x => x.add at_) A) = A2
      go_wp2
      go_ret3
      rw [HE.out, ← HT.out]
      exact ⟨rfl, hb3⟩
  have t0 : (k == 0) = false := by rw [beq_eq_false_iff_ne]; exact h0
  by_cases h1 : k = 1
  · subst h1
    obtain ⟨⟨z, er⟩, hz⟩ : ∃ r, r = zerosM L at_ 4096 := ⟨_, rfl⟩
    have hlen := zr_le 4096 (L.drop at_) 0
    rw [show zr 4096 (L.drop at_) 0 = (z, er) from hz.symm] at hlen
    simp only [List.length_drop] at hlen
    have HE := hide (show readM L at_ 1 n = if er = 0 then (z, at_ + z + 1, 0) else (0, at_, er) by show unaryM L at_ = _; unfold unaryM; rw [← hz])
    have HZ := hide hz
    have hz2 : z ≤ 4096 := by have := hlen.1; omega
    clear hz hlen
    obtain ⟨W, hW⟩ : ∃ W, W = w.alloc (.cells #[.int .i64 1, .int .u64 v, .int .i64 n] 74) := ⟨_, rfl⟩
    have hbW : Below w.heap.size w W := by rw [hW]; exact bl_alloc (bl_refl w) _
    go_wp2_with fail
    rw [← hW]
    refine (zeros_ref A len c L at_ 4096 _ _ W HN.out hn5 (HR.out.below hbW) rfl rfl (by omega) hat).mono ?_
    rintro e w' ⟨rfl, rfl⟩
    rw [← HZ.out]
    simp only []
    by_cases he : er = 0
    · subst he
      rw [if_pos rfl] at HE
      clear hW
      go_wp2
      go_ret3
      rw [HE.out]
      exact ⟨by first | rfl | (unfold tup3; simp; done), hbW⟩
    · rw [if_neg he] at HE
      have te : ((er : Int) == 0) = false := by rw [beq_eq_false_iff_ne]; omega
      clear hW
      go_wp2
      go_ret3
      rw [HE.out]
      exact ⟨rfl, hbW⟩
  omega
end Go.Proofs.Ytnflffhmnbjelaa
