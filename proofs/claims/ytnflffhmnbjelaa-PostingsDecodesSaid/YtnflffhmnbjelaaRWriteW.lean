/- The walk of the reference's Write. -/
import Derived.Test.YtnflffhmnbjelaaRefW
import Derived.Test.YtnflffhmnbjelaaTopW
import Derived.Test.YtnflffhmnbjelaaSlots
namespace Go.Proofs.Ytnflffhmnbjelaa
open Go.RowKit
set_option linter.unusedVariables false
set_option linter.unusedSimpArgs false
/-- What Write returns. -/
def WRes (o : Option (List Bool)) (base : Nat) (e : Ending) (w : World) : Prop :=
  match o with
  | none => e = .returned (.tuple #[.slice none 0 0, .bool false])
  | some l => ∃ r, e = .returned (.tuple #[r, .bool true]) ∧ w.ownsRow base 4 1 r l.length (l.map Value.bool)
set_option maxHeartbeats 1000000 in
set_option maxRecDepth 100000 in
theorem write_gamma (v n : Int) (vn : Nat) (w : World) (hv : v = vn) (hvb : vn < 2 ^ 64) :
    Calls Try.prog 38 #[.agg #[.int .i64 2, .int .u64 v, .int .i64 n]] w fun e w' => WRes (wGamma vn) w.heap.size e w' ∧ Below w.heap.size w w' := by
  subst hv
  have HV := hide hvb
  clear hvb
  obtain ⟨i0, hi0, hz0, hz1, hz2⟩ := info_parts info_bool
  go_enter Try.func38, Try.ntmps38
  by_cases h0 : vn = 0
  · subst h0
    go_wp2
    go_ret2
    exact ⟨rfl, bl_alloc (bl_refl w) _⟩
  · have t0 : ((vn : Int) == 0) = false := by rw [beq_eq_false_iff_ne]; omega
    go_wp2_with fail
    refine (top_any vn vn _ rfl HV.out h0).mono ?_
    rintro e w' ⟨rfl, hw'⟩
    obtain ⟨b, hb⟩ : ∃ b, b + 1 = Lib.bitLen vn := ⟨Lib.bitLen (vn / 2), (bl_pos vn h0 HV.out).symm⟩
    have hb64 : b + 1 ≤ 64 := by rw [hb]; exact bl_64 vn HV.out
    rw [← hb, Nat.add_sub_cancel]
    have HB := hide hb
    have HG := hide (show wGamma vn = some (gamB vn) from if_neg h0)
    have hbW : Below w.heap.size w w' := by rw [← hw']; exact bl_alloc (bl_refl w) _
    have hg : w'.heap[w.heap.size]? = some (.cells #[.int .i64 2, .int .u64 (vn : Int), .int .i64 n] 74 (0, 0)) := by rw [← hw']; exact heap_alloc_new w _
    have c0 : w'.cell? ⟨w.heap.size, 0, none⟩ = some (.int .i64 2) := cell_of_row w' _ 0 _ _ _ hg
    have c1 : w'.cell? ⟨w.heap.size, 1, none⟩ = some (.int .u64 (vn : Int)) := cell_of_row w' _ 1 _ _ _ hg
    clear hb hw' hg
    go_wp2_with fail
    refine wp_region_K 10 (by kernel_rfl) (by kernel_rfl) (fun Q HQ => ?_)
    simp only [List.take_succ_cons, List.take_zero, List.map_cons, List.map_nil]
    have f1 : ∀ wx, CB w'.drew wx → wx.cell? ⟨w.heap.size, 1, none⟩ = some (.int .u64 (vn : Int)) := fun wx h => h.cell c1
    repeat
      first | apply wpS_c rfl | apply wpS_gc rfl (guard_mk rfl rfl)
      focus
        intro ev wx hC hx
        (try simp [Op.operands, Call.operands, opndS, Slot.holds] at hx)
        go_simp
        try (first | exact rfl | exact ⟨Below.refl _ _, rfl⟩)
        done
      dsimp only [setS, List.set]
    refine wpS_p rfl (stab_full w.heap.size 4 b (List.replicate b (.bool false))) (opS_make (.tmp 62) (.tmp 62) 70 rfl w.heap.size 4 i0 _ Try.underlying70 hi0 hz0 hz1 rfl .i64 .i64 b rfl rfl (by rw [hz2]; omega) (by simp only [maxLen]; omega) (fun wx h => Nat.le_trans hbW.size h.below.size)) ?_
    dsimp only [setS, List.set]
    repeat
      first | apply wpS_c rfl | apply wpS_gc rfl (guard_mk rfl rfl)
      focus
        intro ev wx hC hx
        (try simp [Op.operands, Call.operands, opndS, Slot.holds] at hx)
        go_simp
        try (first | exact rfl | exact ⟨Below.refl _ _, rfl⟩)
        done
      dsimp only [setS, List.set]
    refine wpS_p (R := FreshRow w.heap.size 4 (b + 1) ((lowB vn (b + 1)).map Value.bool)) rfl (stab_fresh _ _ _ _) ?_ ?_
    focus
      intro ev wx hC hx
      (try simp [Op.operands, Call.operands, opndS, Slot.holds] at hx)
      go_simp
      refine (low_ref vn _ vn (b + 1) _ rfl (by rw [IntKind.wrap_i64]; omega) HV.out hb64).mono ?_
      rintro e w2 ⟨v, rfl, hown, hb⟩
      exact ⟨v, rfl, hb, Nat.le_trans hbW.size (Nat.le_trans hC.below.size hb.size), own_base hown (Nat.le_trans hbW.size hC.below.size)⟩
    dsimp only [setS, List.set]
    refine wpS_p rfl (stab_fresh w.heap.size 4 (b + (b + 1)) _) (opS_append_full (.tmp 63) (.tmp 68) 70 rfl w.heap.size 4 i0 _ 1 Try.underlying70 hi0 hz0 hz1 hz2 rfl b (b + 1) (List.replicate b (.bool false)) ((lowB vn (b + 1)).map Value.bool) (by omega) (bools_one _) rfl rfl (by simp only [maxLen]; omega) (by omega)) ?_
    dsimp only [setS, List.set]
    refine wpS_p rfl (stab_fresh w.heap.size 4 (b + (b + 1)) _) (opS_assign_p (.tmp 69) rfl _ rfl) ?_
    dsimp only [setS, List.set]
    repeat
      first | apply wpS_c rfl | apply wpS_gc rfl (guard_mk rfl rfl)
      focus
        intro ev wx hC hx
        (try simp [Op.operands, Call.operands, opndS, Slot.holds] at hx)
        go_simp
        try (first | exact rfl | exact ⟨Below.refl _ _, rfl⟩)
        done
      dsimp only [setS, List.set]
    refine wpS_nil (HQ _ fun w3 hC3 => ?_)
    simp only [closeS, List.drop_succ_cons, List.drop_zero, List.drop_nil]
    clear HQ f1
    rintro v0 ⟨_, hv0⟩ v1 - v2 - v3 -
    have hb3 := hC3.below
    go_wp2
    go_ret2
    refine ⟨?_, bl_trans hbW hb3⟩
    rw [HG.out]
    refine ⟨v0, rfl, ?_⟩
    have e1 : gamB vn = List.replicate b false ++ lowB vn (b + 1) := by rw [gamB, ← HB.out, Nat.add_sub_cancel]
    rw [e1, List.length_append, List.length_replicate, lowB_length, List.map_append, List.map_replicate]
    exact hv0
/-- What a call appends. -/
def wCall (k : Int) (v : Nat) (n : Int) : Option (List Bool) := if k = 0 then wBits v n else if k = 1 then wUnary n else if k = 2 then wGamma v else wDelta v
set_option maxHeartbeats 1000000 in
set_option maxRecDepth 100000 in
theorem write_ref (k v n : Int) (vn : Nat) (w : World) (hv : v = vn) (hvb : vn < 2 ^ 64) :
    Calls Try.prog 38 #[.agg #[.int .i64 k, .int .u64 v, .int .i64 n]] w fun e w' => WRes (wCall k vn n) w.heap.size e w' ∧ Below w.heap.size w w' := by
  by_cases hk2 : k = 2
  · subst hk2
    exact write_gamma v n vn w hv hvb
  subst hv
  have HV := hide hvb
  clear hvb
  obtain ⟨i0, hi0, hz0, hz1, hz2⟩ := info_parts info_bool
  go_enter Try.func38, Try.ntmps38
  by_cases hk0 : k = 0
  · subst hk0
    rw [show wCall 0 vn n = wBits vn n from rfl]
    have HNO := hide (show ∀ (h : ¬ (0 ≤ n ∧ n ≤ 64 ∧ (Lib.bitLen vn : Int) ≤ n)), wBits vn n = none from fun h => if_neg h)
    have HYES := hide (show ∀ (h : 0 ≤ n ∧ n ≤ 64 ∧ (Lib.bitLen vn : Int) ≤ n), wBits vn n = some (lowB vn n.toNat) from fun h => if_pos h)
    by_cases h1 : n < 0
    · go_wp2
      go_ret2
      rw [HNO.out (by omega)]
      exact ⟨rfl, bl_alloc (bl_refl w) _⟩
    by_cases h2 : 64 < n
    · go_wp2
      go_ret2
      rw [HNO.out (by omega)]
      exact ⟨rfl, bl_alloc (bl_refl w) _⟩
    obtain ⟨m, rfl⟩ := Int.eq_ofNat_of_zero_le (show 0 ≤ n by omega)
    have hm : m ≤ 64 := by omega
    by_cases h3 : (Lib.bitLen vn : Int) ≤ m
    · have HY := hide (HYES.out (by omega))
      have hz : m < 64 → ((vn : Int) / 2 ^ m == 0) = true := fun h => by
        have h4 := (bl_le vn m HV.out).1 (by omega)
        have e : (vn : Int) / 2 ^ m = ((vn / 2 ^ m : Nat) : Int) := by simp
        rw [e, Nat.div_eq_of_lt h4]; rfl
      clear HNO HYES
      by_cases h4 : m < 64
      · have hz1' := hz h4
        have h4' : (m : Int) < 64 := by omega
        clear hz
        go_wp2_with fail
        refine (low_ref vn m vn m _ rfl rfl HV.out hm).mono ?_
        rintro e w1 ⟨r, rfl, hown, hb⟩
        go_wp2
        go_ret2
        rw [HY.out]
        refine ⟨⟨r, rfl, ?_⟩, bl_trans (bl_alloc (bl_refl w) _) hb⟩
        rw [Int.toNat_natCast, lowB_length]
        exact own_base hown (by simp)
      · have h4' : ¬ (m : Int) < 64 := by omega
        clear hz
        go_wp2_with fail
        refine (low_ref vn m vn m _ rfl rfl HV.out hm).mono ?_
        rintro e w1 ⟨r, rfl, hown, hb⟩
        go_wp2
        go_ret2
        rw [HY.out]
        refine ⟨⟨r, rfl, ?_⟩, bl_trans (bl_alloc (bl_refl w) _) hb⟩
        rw [Int.toNat_natCast, lowB_length]
        exact own_base hown (by simp)
    · have HN := hide (HNO.out (by omega))
      have h4 : ¬ vn < 2 ^ m := fun h => h3 (by have := (bl_le vn m HV.out).2 h; omega)
      have h5 : m < 64 := by
        have := bl_64 vn HV.out
        omega
      have hz : ((vn : Int) / 2 ^ m == 0) = false := by
        have e : (vn : Int) / 2 ^ m = ((vn / 2 ^ m : Nat) : Int) := by simp
        rw [e, beq_eq_false_iff_ne]
        have : 0 < vn / 2 ^ m := Nat.div_pos (by omega) (Nat.two_pow_pos _)
        omega
      have h4' : (m : Int) < 64 := by omega
      clear HNO HYES h4
      go_wp2
      go_ret2
      rw [HN.out]
      exact ⟨rfl, bl_alloc (bl_refl w) _⟩
  have t0 : (k == 0) = false := by rw [beq_eq_false_iff_ne]; exact hk0
  by_cases hk1 : k = 1
  · subst hk1
    rw [show wCall 1 vn n = wUnary n from rfl]
    have HNO := hide (show ∀ (h : ¬ (0 ≤ n ∧ n ≤ 4096)), wUnary n = none from fun h => if_neg h)
    have HYES := hide (show ∀ (h : 0 ≤ n ∧ n ≤ 4096), wUnary n = some (List.replicate n.toNat false ++ [true]) from fun h => if_pos h)
    by_cases h1 : n < 0
    · go_wp2
      go_ret2
      rw [HNO.out (by omega)]
      exact ⟨rfl, bl_alloc (bl_refl w) _⟩
    by_cases h2 : 4096 < n
    · go_wp2
      go_ret2
      rw [HNO.out (by omega)]
      exact ⟨rfl, bl_alloc (bl_refl w) _⟩
    obtain ⟨m, rfl⟩ := Int.eq_ofNat_of_zero_le (show 0 ≤ n by omega)
    have hm : m ≤ 4096 := by omega
    have HY := hide (HYES.out (by omega))
    clear HNO HYES hk0
    go_wp2_with (first
      | (at_make; go_loud (refine wpList_make_full _ rfl (.tmp 49) (.tmp 49) 70 rfl w.heap.size 4 i0 _ 1 Try.underlying70 hi0 hz0 hz1 .i64 .i64 _ _ m rfl rfl rfl rfl (by rw [hz2]; omega) (by simp only [maxLen]; omega) (by simp) ?_); intro w1 hown hg1; rw [made_one _ rfl, show ∀ o, (w.alloc o).heap.size = w.heap.size + 1 from fun o => by simp] at hown; have hb1 : Below w.heap.size w w1 := bl_grown (bl_alloc (bl_refl w) _) hg1 (fun k h => by cases h); have HO := hide hown; clear hown hg1)
      | (at_builtin; go_loud (refine wpList_append_rd _ rfl (.tmp 50) (.tmp 51) 70 rfl w.heap.size 4 i0 _ 1 1 Try.underlying70 hi0 hz0 hz1 hz2 rfl (by omega) (.slice (some ⟨_, 0, none⟩) m m) m (List.replicate m (.bool false)) rfl (HO.out.alloc _) _ 1 1 [.bool true] rfl rfl (rd_lit _ _ _ _) (by intro u hu; simp at hu; subst hu; rfl) (by simp only [maxLen]; omega) (by omega) (by have := hb1.size; simp; omega) ?_); intro r2 w3 hown3 hg3 hat3))
    go_ret2
    rw [HY.out]
    refine ⟨⟨r2, rfl, ?_⟩, bl_grown (bl_alloc hb1 _) hg3 (fun j h => (HO.out.lt j h).1)⟩
    simpa using hown3
  have t1 : (k == 1) = false := by rw [beq_eq_false_iff_ne]; exact hk1
  have t2 : (k == 2) = false := by rw [beq_eq_false_iff_ne]; exact hk2
  rw [show wCall k vn n = wDelta vn by unfold wCall; rw [if_neg hk0, if_neg hk1, if_neg hk2]]
  clear hk0 hk1 hk2
  by_cases h0 : vn = 0
  · subst h0
    go_wp2
    go_ret2
    exact ⟨rfl, bl_alloc (bl_refl w) _⟩
  have t3 : ((vn : Int) == 0) = false := by rw [beq_eq_false_iff_ne]; omega
  go_wp2_with fail
  refine (top_any vn vn _ rfl HV.out h0).mono ?_
  rintro e w' ⟨rfl, hw'⟩
  obtain ⟨b, hb⟩ : ∃ b, b + 1 = Lib.bitLen vn := ⟨Lib.bitLen (vn / 2), (bl_pos vn h0 HV.out).symm⟩
  have hb64 : b + 1 ≤ 64 := by rw [hb]; exact bl_64 vn HV.out
  rw [← hb, Nat.add_sub_cancel]
  have HB := hide hb
  have HG := hide (show wDelta vn = some (gamB (b + 1) ++ lowB vn b) from by rw [wDelta, if_neg h0, ← hb, Nat.add_sub_cancel])
  have HGG := hide (show wGamma (b + 1) = some (gamB (b + 1)) from if_neg (by omega))
  have hbW : Below w.heap.size w w' := by rw [← hw']; exact bl_alloc (bl_refl w) _
  have hg : w'.heap[w.heap.size]? = some (.cells #[.int .i64 k, .int .u64 (vn : Int), .int .i64 n] 74 (0, 0)) := by rw [← hw']; exact heap_alloc_new w _
  have c0 : w'.cell? ⟨w.heap.size, 0, none⟩ = some (.int .i64 k) := cell_of_row w' _ 0 _ _ _ hg
  have c1 : w'.cell? ⟨w.heap.size, 1, none⟩ = some (.int .u64 (vn : Int)) := cell_of_row w' _ 1 _ _ _ hg
  clear hb hw' hg
  go_wp2_with fail
  refine (write_gamma _ _ (b + 1) w' (by simp) (by omega)).mono ?_
  rintro e w2 ⟨hres, hb2⟩
  rw [HGG.out] at hres
  obtain ⟨r, rfl, hown⟩ := hres
  have c1' : w2.cell? ⟨w.heap.size, 1, none⟩ = some (.int .u64 (vn : Int)) := by rw [hb2.cell (lt_heap c1)]; exact c1
  have HO := hide (own_base hown hbW.size)
  have hgl : (gamB (b + 1)).length ≤ 200 := gamB_length _ (bl_64 _ (by omega))
  obtain ⟨gl, hgl2⟩ : ∃ gl, gl = (gamB (b + 1)).length := ⟨_, rfl⟩
  rw [← hgl2] at HO hgl
  have HGL := hide hgl2
  clear hown hgl2 c1
  go_wp2_with fail
  refine (low_ref vn b vn b _ rfl rfl HV.out (by omega)).mono ?_
  rintro e w3 ⟨v, rfl, hown2, hb3⟩
  obtain ⟨hx1, a2, c2, rfl, hx2, hrd2, hx3⟩ := own_form hown2
  have HR := hide hrd2
  have HO3 := hide (own_below HO.out hb3)
  have hb4 := bl_trans hbW (bl_trans hb2 hb3)
  clear hx1 hx2 hx3 hown2 hrd2
  go_wp2_with (at_builtin; go_loud (refine wpList_append_rd _ rfl (.tmp 78) (.tmp 82) 70 rfl w.heap.size 4 i0 _ 1 1 Try.underlying70 hi0 hz0 hz1 hz2 rfl (by omega) r gl ((gamB (b + 1)).map Value.bool) rfl HO3.out a2 b c2 ((lowB vn b).map Value.bool) rfl (by rw [List.length_map, lowB_length]; omega) HR.out (bools_one _) (by simp only [maxLen]; omega) (by omega) hb4.size ?_); intro r2 w5 hown5 hg5 hat5)
  go_ret2
  rw [HG.out]
  refine ⟨⟨r2, rfl, ?_⟩, bl_grown hb4 hg5 (fun j h => (HO3.out.lt j h).1)⟩
  rw [List.length_append, lowB_length, ← HGL.out, List.map_append]
  exact hown5
end Go.Proofs.Ytnflffhmnbjelaa
