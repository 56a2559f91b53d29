/- The walks of treelabel's Dominates, Precedes and Common, at the labels of a forest. -/
import Derived.Test.YtbpkclopcoaikaaGreatDoorTfWm
namespace Go.Proofs.YtbpkclopcoaikaaGreatDoor
open Go.RowKit
set_option linter.unusedVariables false
set_option linter.unusedSimpArgs false
set_option maxHeartbeats 2000000 in
set_option maxRecDepth 100000 in
theorem dom_any (x y z x' y' z' : Int) (b : Bool) (hb : b = (decide (x < x') && decide (y' < y))) (w : World) :
    Calls Tryz.prog 11 #[.agg #[.int .i64 x, .int .i64 y, .int .i64 z], .agg #[.int .i64 x', .int .i64 y', .int .i64 z']] w fun e w' => e = .returned (.bool b) ∧ Below w.heap.size w w' := by
  go_enter Tryz.func11, Tryz.ntmps11
  obtain ⟨W1, hW1⟩ : ∃ W1, W1 = (w.alloc (.cells #[.int .i64 x, .int .i64 y, .int .i64 z] 43 (0, 0))).alloc (.cells #[.int .i64 x', .int .i64 y', .int .i64 z'] 43 (0, 0)) := ⟨_, rfl⟩
  have HB := hide (bl_alloc (bl_alloc (bl_refl w) (.cells #[.int .i64 x, .int .i64 y, .int .i64 z] 43 (0, 0))) (.cells #[.int .i64 x', .int .i64 y', .int .i64 z'] 43 (0, 0)))
  have HBB := hide hb
  clear hb hW1 W1
  by_cases h1 : x < x'
  · by_cases h2 : y' < y
    · go_wp2
      go_ret
      exact ⟨by rw [HBB.out]; simp [h1, h2], HB.out⟩
    · go_wp2
      go_ret
      exact ⟨by rw [HBB.out]; simp [h1, h2], HB.out⟩
  · go_wp2
    go_ret
    exact ⟨by rw [HBB.out, decide_eq_false (show ¬ x < x' by omega)]; rfl, HB.out⟩
set_option maxHeartbeats 2000000 in
set_option maxRecDepth 100000 in
theorem prec_any (x y z x' y' z' : Int) (b : Bool) (hb : b = (decide (x < x') && decide (y < y'))) (w : World) :
    Calls Tryz.prog 12 #[.agg #[.int .i64 x, .int .i64 y, .int .i64 z], .agg #[.int .i64 x', .int .i64 y', .int .i64 z']] w fun e w' => e = .returned (.bool b) ∧ Below w.heap.size w w' := by
  go_enter Tryz.func12, Tryz.ntmps12
  have HB := hide (bl_alloc (bl_alloc (bl_refl w) (.cells #[.int .i64 x, .int .i64 y, .int .i64 z] 43 (0, 0))) (.cells #[.int .i64 x', .int .i64 y', .int .i64 z'] 43 (0, 0)))
  have HBB := hide hb
  clear hb
  by_cases h1 : x < x'
  · by_cases h2 : y < y'
    · go_wp2
      go_ret
      exact ⟨by rw [HBB.out]; simp [h1, h2], HB.out⟩
    · go_wp2
      go_ret
      exact ⟨by rw [HBB.out]; simp [h1, h2], HB.out⟩
  · go_wp2
    go_ret
    exact ⟨by rw [HBB.out, decide_eq_false (show ¬ x < x' by omega)]; rfl, HB.out⟩
/-- The lowest common ancestor of two nodes, themselves included; -1: there is none. -/
def Lca (p : List Int) (i j : Nat) (m : Int) : Prop := (m = -1 ∧ ∀ k, AncS p k i → ¬ AncS p k j) ∨ ∃ x : Nat, m = (x : Int) ∧ AncS p x i ∧ AncS p x j ∧ ∀ k, AncS p k i → AncS p k j → AncS p k x
theorem Lca.uniq {p : List Int} {r : Nat → Nat} (hF : Forest p r) {i j : Nat} {m m' : Int} (h : Lca p i j m) (h' : Lca p i j m') : m = m' := by
  rcases h with ⟨rfl, h⟩ | ⟨x, rfl, h1, h2, h3⟩ <;> rcases h' with ⟨rfl, h'⟩ | ⟨y, rfl, k1, k2, k3⟩
  · rfl
  · exact absurd k2 (h _ k1)
  · exact absurd h2 (h' _ h1)
  · rcases h3 y k1 k2 with rfl | a
    · rfl
    · rcases k3 x h1 h2 with rfl | b
      · rfl
      · exact (a.asymm hF b).elim
/-- What the loop of Common knows. -/
structure CSt (p : List Int) (i j : Nat) (x : Int) : Prop where
  ge : -1 ≤ x
  lt : x < p.length
  up : ∀ c : Nat, x = (c : Int) → AncS p c i
  all : ∀ k, AncS p k i → AncS p k j → ∃ c : Nat, x = (c : Int) ∧ AncS p k c
theorem CSt.start {p : List Int} {i j : Nat} (hi : i < p.length) : CSt p i j (i : Int) := by
  refine ⟨by omega, by omega, fun c h => ?_, fun k h _ => ⟨i, rfl, h⟩⟩
  obtain rfl : i = c := by omega
  exact .inl rfl
theorem CSt.step {p : List Int} {r : Nat → Nat} (hF : Forest p r) {i j c : Nat} {y : Int} (h : CSt p i j (c : Int)) (hy : p[c]? = some y) (hn : ¬ AncS p c j) : CSt p i j y := by
  have hr := hF.rng c y hy
  refine ⟨hr.1, hr.2, fun q hq => ?_, fun k hk hkj => ?_⟩
  · have hpar : Par p q c := by unfold Par; rw [hy, hq]
    rcases h.up c rfl with rfl | ha
    · exact .inr (.one hpar)
    · exact .inr ((Anc.one hpar).trans ha)
  · obtain ⟨c', e, hc⟩ := h.all k hk hkj
    obtain rfl : c = c' := by omega
    rcases hc with rfl | hc
    · exact absurd hkj hn
    · cases hc with
      | one hp =>
        unfold Par at hp
        rw [hy] at hp
        injection hp with hp
        exact ⟨k, hp, .inl rfl⟩
      | up hp ha =>
        unfold Par at hp
        rw [hy] at hp
        injection hp with hp
        exact ⟨_, hp, .inr ha⟩
theorem CSt.none {p : List Int} {i j : Nat} {x : Int} (h : CSt p i j x) (hx : x < 0) : Lca p i j x := .inl ⟨by have := h.ge; omega, fun k hk hkj => by obtain ⟨c, e, _⟩ := h.all k hk hkj; omega⟩
theorem CSt.found {p : List Int} {i j c : Nat} (h : CSt p i j (c : Int)) (hx : AncS p c j) : Lca p i j (c : Int) := .inr ⟨c, rfl, h.up c rfl, hx, fun k hk hkj => by
  obtain ⟨c', e, hc⟩ := h.all k hk hkj
  obtain rfl : c = c' := by omega
  exact hc⟩
set_option maxHeartbeats 2000000 in
set_option maxRecDepth 100000 in
theorem parentsOf_any (a : Option Addr) (n cap : Nat) (p : List Int) (r : Nat → Nat) (i j : Nat) (w : World) (h : IsLab w a n p r) (hc : n ≤ cap) (hcm : cap ≤ maxLen) (hm : n ≤ 4096) (hF : Forest p r) (hR : ∀ i, i < n → r i ≤ 4096) (hi : i < n) (hj : j < n) :
    Calls Tryz.prog 29 #[.slice a n cap, .int .i64 (i : Int), .int .i64 (j : Int)] w fun e w' => ∃ g c, e = .returned (.tuple #[.slice (some ⟨g, 0, none⟩) n c, .bool true]) ∧ Below w.heap.size w w' ∧ w.heap.size ≤ g ∧ IsI w' (some ⟨g, 0, none⟩) n p := by
  have HI := hide h
  have HF := hide hF
  have HRR := hide hR
  clear h hF hR
  have h1 : (i : Int) < (n : Int) := by omega
  have h2 : (j : Int) < (n : Int) := by omega
  have h3 : (0 : Int) ≤ (i : Int) := by omega
  have h4 : (0 : Int) ≤ (j : Int) := by omega
  go_enter Tryz.func29, Tryz.ntmps29
  go_wp2_with fail
  refine (parents_any a n cap p r w HI.out hc hcm hm HF.out HRR.out).mono ?_
  rintro e w1 ⟨g, c, rfl, hb, hg, hp⟩
  have HB := hide hb
  have HP := hide hp
  have HG := hide hg
  clear hb hp hg
  go_wp2
  go_ret2
  exact ⟨g, c, rfl, HB.out, HG.out, HP.out⟩
set_option maxHeartbeats 2000000 in
set_option maxRecDepth 100000 in
theorem tcommon_any (a : Option Addr) (n cap : Nat) (p : List Int) (r : Nat → Nat) (i j : Nat) (w : World) (h : IsLab w a n p r) (hc : n ≤ cap) (hcm : cap ≤ maxLen) (hm : n ≤ 4096) (hF : Forest p r) (hR : ∀ i, i < n → r i ≤ 4096) (hi : i < n) (hj : j < n) :
    Calls Tryz.prog 10 #[.slice a n cap, .int .i64 (i : Int), .int .i64 (j : Int)] w fun e w' => ∃ m, e = .returned (.int .i64 m) ∧ Below w.heap.size w w' ∧ Lca p i j m := by
  have HI := hide h
  have HN := hide h.1
  have HF := hide hF
  have HRR := hide hR
  clear h hF hR
  go_enter Tryz.func10, Tryz.ntmps10
  go_wp2_with fail
  refine (parentsOf_any a n cap p r i j w HI.out hc hcm hm HF.out HRR.out hi hj).mono ?_
  rintro e w1 ⟨g, c, rfl, hb, hg, hp⟩
  have HB := hide hb
  have HP := hide hp
  have HIL := hide (HI.out.below hb)
  have HC := hide (CSt.start (j := j) (show i < p.length by rw [← HN.out]; exact hi))
  clear hb hp hg
  have hji : (j : Int) < (n : Int) := by omega
  go_wp2_with fail
  go_loopw [1] (fun iv wr => ∃ (x : Int), iv = .int .i64 x ∧ Hid (CSt p i j x) ∧ Hid (Below w1.heap.size w1 wr)) (fun iv _ => if intOf iv < 0 then 0 else r (intOf iv).toNat + 1)
  case atStart => exact ⟨i, rfl, HC, hide (bl_refl w1)⟩
  case round =>
    obtain ⟨x, rfl, HX, HBx⟩ := hrel
    have HBX := hide (HB.out.trans (HBx.out.mono HB.out.size))
    by_cases hx0 : x < 0
    · have HL := hide (HX.out.none hx0)
      go_wp2_with fail
      refine wp_region_K 19 (by kernel_rfl) (by kernel_rfl) (fun Q HQ => ?_)
      simp only [List.take_succ_cons, List.take_zero, List.map_cons, List.map_nil]
      have hx0' : ¬ 0 ≤ x := by omega
      repeat
        first
        | (refine wpS_skip (b := true) rfl (guard_mk rfl rfl) ?_)
        | (refine wpS_skip (b := false) rfl (guard_mk rfl rfl) ?_)
        | (refine wpS_skipU rfl (guardU_mk rfl rfl) ?_)
        | (first | apply wpS_c rfl | apply wpS_gc rfl (guard_mk rfl rfl)
           focus
             intro ev wx hC hx
             (try simp [Op.operands, Call.operands, opndS, Slot.holds] at hx)
             go_simp
             try (first | exact rfl | exact ⟨Below.refl _ _, rfl⟩)
             done)
        dsimp only [setS, List.set]
      refine wpS_nil (HQ _ fun w6 hC6 => ?_)
      simp only [closeS, List.drop_succ_cons, List.drop_zero, List.drop_nil]
      have HB6 := hide (HBX.out.trans (hC6.below.mono HBX.out.size))
      clear HQ hC6
      go_wp2
      go_ret
      exact ⟨x, rfl, HB6.out, HL.out⟩
    · obtain ⟨q, rfl⟩ := Int.eq_ofNat_of_zero_le (show 0 ≤ x by omega)
      have hqn : q < n := by have := HX.out.lt; have := HN.out; omega
      have hqi : (q : Int) < (n : Int) := by omega
      have hq0 : (0 : Int) ≤ (q : Int) := by omega
      by_cases hqj : q = j
      · subst hqj
        have HL := hide (HX.out.found (.inl rfl))
        go_wp2_with fail
        refine wp_region_K 19 (by kernel_rfl) (by kernel_rfl) (fun Q HQ => ?_)
        simp only [List.take_succ_cons, List.take_zero, List.map_cons, List.map_nil]
        repeat
          first
          | (refine wpS_skip (b := true) rfl (guard_mk rfl rfl) ?_)
          | (refine wpS_skip (b := false) rfl (guard_mk rfl rfl) ?_)
          | (refine wpS_skipU rfl (guardU_mk rfl rfl) ?_)
          | (first | apply wpS_c rfl | apply wpS_gc rfl (guard_mk rfl rfl)
             focus
               intro ev wx hC hx
               (try simp [Op.operands, Call.operands, opndS, Slot.holds] at hx)
               go_simp
               try (first | exact rfl | exact ⟨Below.refl _ _, rfl⟩)
               done)
          dsimp only [setS, List.set]
        refine wpS_nil (HQ _ fun w6 hC6 => ?_)
        simp only [closeS, List.drop_succ_cons, List.drop_zero, List.drop_nil]
        have HB6 := hide (HBX.out.trans (hC6.below.mono HBX.out.size))
        clear HQ hC6
        go_wp2
        go_ret
        exact ⟨q, rfl, HB6.out, HL.out⟩
      · have HQJ := hide (show ((q : Int) != (j : Int)) = true by rw [bne_iff_ne]; omega)
        have HIx := hide (HIL.out.below HBx.out)
        obtain ⟨bl, ol, rfl, hbl, l0, l1, l2⟩ := HIx.out.at_ hqn
        obtain ⟨k0, k1, k2⟩ := HIx.out.cells hj
        have f0 : ∀ wx, CB wr.drew wx → wx.cell? ⟨bl, ol + q * 3, none⟩ = some (.int .i64 (preN p r q : Int)) ∧ wx.cell? ⟨bl, ol + q * 3 + 1, none⟩ = some (.int .i64 (postN p r q : Int)) ∧ wx.cell? ⟨bl, ol + q * 3 + 2, none⟩ = some (.int .i64 (r q : Int)) := fun wx h => ⟨h.cell l0, h.cell l1, h.cell l2⟩
        have f1 : ∀ wx, CB wr.drew wx → wx.cell? ⟨bl, ol + j * 3, none⟩ = some (.int .i64 (preN p r j : Int)) ∧ wx.cell? ⟨bl, ol + j * 3 + 1, none⟩ = some (.int .i64 (postN p r j : Int)) ∧ wx.cell? ⟨bl, ol + j * 3 + 2, none⟩ = some (.int .i64 (r j : Int)) := fun wx h => ⟨h.cell k0, h.cell k1, h.cell k2⟩
        have F0 := hide f0
        have F1 := hide f1
        clear l0 l1 l2 k0 k1 k2 f0 f1
        have hdi := dom_iff HF.out (i := j) (k := q) (by rw [← HN.out]; exact hj) (by rw [← HN.out]; exact hqn)
        by_cases hd : Anc p q j
        · have HD : Hid (∀ wx, Calls Tryz.prog 11 #[.agg #[.int .i64 (preN p r q : Int), .int .i64 (postN p r q : Int), .int .i64 (r q : Int)], .agg #[.int .i64 (preN p r j : Int), .int .i64 (postN p r j : Int), .int .i64 (r j : Int)]] wx fun e w' => e = .returned (.bool true) ∧ Below wx.heap.size wx w') := hide (fun wx => dom_any _ _ _ _ _ _ _ (by have := hdi.2 hd; symm; simp; omega) wx)
          have HL := hide (HX.out.found (.inr hd))
          clear hdi hd
          go_wp2_with fail
          refine wp_region_K 19 (by kernel_rfl) (by kernel_rfl) (fun Q HQ => ?_)
          simp only [List.take_succ_cons, List.take_zero, List.map_cons, List.map_nil]
          have hqj' : ((q : Int) != (j : Int)) = true := by rw [bne_iff_ne]; omega
          repeat
            first
            | (refine wpS_skip (b := true) rfl (guard_mk rfl rfl) ?_)
            | (refine wpS_skip (b := false) rfl (guard_mk rfl rfl) ?_)
            | (refine wpS_skipU rfl (guardU_mk rfl rfl) ?_)
            | (first | apply wpS_c rfl | apply wpS_gc rfl (guard_mk rfl rfl)
               focus
                 intro ev wx hC hx
                 (try simp [Op.operands, Call.operands, opndS, Slot.holds] at hx)
                 go_simp
                 try (first | exact rfl | exact ⟨Below.refl _ _, rfl⟩)
                 done)
            dsimp only [setS, List.set]
          apply wpS_gc rfl (guard_mk rfl rfl)
          focus
            intro ev wx hC hx
            (try simp [Op.operands, Call.operands, opndS, Slot.holds] at hx)
            obtain ⟨p0, p1, p2⟩ := F0.out _ hC
            go_simp
            first | exact rfl | exact ⟨Below.refl _ _, rfl⟩
          dsimp only [setS, List.set]
          repeat
            first
            | (refine wpS_skip (b := true) rfl (guard_mk rfl rfl) ?_)
            | (refine wpS_skip (b := false) rfl (guard_mk rfl rfl) ?_)
            | (refine wpS_skipU rfl (guardU_mk rfl rfl) ?_)
            | (first | apply wpS_c rfl | apply wpS_gc rfl (guard_mk rfl rfl)
               focus
                 intro ev wx hC hx
                 (try simp [Op.operands, Call.operands, opndS, Slot.holds] at hx)
                 go_simp
                 try (first | exact rfl | exact ⟨Below.refl _ _, rfl⟩)
                 done)
            dsimp only [setS, List.set]
          apply wpS_gc rfl (guard_mk rfl rfl)
          focus
            intro ev wx hC hx
            (try simp [Op.operands, Call.operands, opndS, Slot.holds] at hx)
            obtain ⟨p0, p1, p2⟩ := F1.out _ hC
            go_simp
            first | exact rfl | exact ⟨Below.refl _ _, rfl⟩
          dsimp only [setS, List.set]
          apply wpS_gc rfl (guard_mk rfl rfl)
          focus
            intro ev wx hC hx
            (try simp [Op.operands, Call.operands, opndS, Slot.holds] at hx)
            go_simp
            go_at_call 11
            refine (HD.out _).mono ?_
            rintro e w' ⟨rfl, hb⟩
            first | exact ⟨rfl, hb⟩ | exact ⟨hb, rfl⟩
          dsimp only [setS, List.set]
          repeat
            first
            | (refine wpS_skip (b := true) rfl (guard_mk rfl rfl) ?_)
            | (refine wpS_skip (b := false) rfl (guard_mk rfl rfl) ?_)
            | (refine wpS_skipU rfl (guardU_mk rfl rfl) ?_)
            | (first | apply wpS_c rfl | apply wpS_gc rfl (guard_mk rfl rfl)
               focus
                 intro ev wx hC hx
                 (try simp [Op.operands, Call.operands, opndS, Slot.holds] at hx)
                 go_simp
                 try (first | exact rfl | exact ⟨Below.refl _ _, rfl⟩)
                 done)
            dsimp only [setS, List.set]
          refine wpS_nil (HQ _ fun w6 hC6 => ?_)
          simp only [closeS, List.drop_succ_cons, List.drop_zero, List.drop_nil]
          have HB6 := hide (HBX.out.trans (hC6.below.mono HBX.out.size))
          have HB7 := hide (HBx.out.trans (hC6.below.mono HBx.out.size))
          have HC6 := hide hC6.below
          clear HQ hC6
          go_wp2
          go_ret
          exact ⟨q, rfl, HB6.out, HL.out⟩
        · have HD : Hid (∀ wx, Calls Tryz.prog 11 #[.agg #[.int .i64 (preN p r q : Int), .int .i64 (postN p r q : Int), .int .i64 (r q : Int)], .agg #[.int .i64 (preN p r j : Int), .int .i64 (postN p r j : Int), .int .i64 (r j : Int)]] wx fun e w' => e = .returned (.bool false) ∧ Below wx.heap.size wx w') := hide (fun wx => dom_any _ _ _ _ _ _ _ (by
            have h2 : ¬ (preN p r q < preN p r j ∧ postN p r j < postN p r q) := fun h => hd (hdi.1 h)
            symm
            rw [Bool.eq_false_iff]
            intro h
            simp at h
            exact h2 ⟨by omega, by omega⟩) wx)
          have hnA : ¬ AncS p q j := fun h => by
            rcases h with h | h
            · exact hqj h
            · exact hd h
          obtain ⟨b, o, y, ey, hbb, hy, e0⟩ := (HP.out.below HBx.out).at_ hqn
          injection ey with ey
          injection ey with ey1 ey2
          subst ey1 ey2
          have HS := hide (HX.out.step HF.out hy hnA)
          have hmeas : (if y < 0 then 0 else r y.toNat + 1) < r q + 1 := by
            split
            · omega
            · have := HF.out.step y.toNat q (by unfold Par; rw [Int.toNat_of_nonneg (by omega)]; exact hy)
              omega
          have HM := hide hmeas
          have HE0 := hide e0
          clear hdi hd hnA hy hmeas e0
          go_wp2_with fail
          refine wp_region_K 19 (by kernel_rfl) (by kernel_rfl) (fun Q HQ => ?_)
          simp only [List.take_succ_cons, List.take_zero, List.map_cons, List.map_nil]
          have hqj' : ((q : Int) != (j : Int)) = true := by rw [bne_iff_ne]; omega
          repeat
            first
            | (refine wpS_skip (b := true) rfl (guard_mk rfl rfl) ?_)
            | (refine wpS_skip (b := false) rfl (guard_mk rfl rfl) ?_)
            | (refine wpS_skipU rfl (guardU_mk rfl rfl) ?_)
            | (first | apply wpS_c rfl | apply wpS_gc rfl (guard_mk rfl rfl)
               focus
                 intro ev wx hC hx
                 (try simp [Op.operands, Call.operands, opndS, Slot.holds] at hx)
                 go_simp
                 try (first | exact rfl | exact ⟨Below.refl _ _, rfl⟩)
                 done)
            dsimp only [setS, List.set]
          apply wpS_gc rfl (guard_mk rfl rfl)
          focus
            intro ev wx hC hx
            (try simp [Op.operands, Call.operands, opndS, Slot.holds] at hx)
            obtain ⟨p0, p1, p2⟩ := F0.out _ hC
            go_simp
            first | exact rfl | exact ⟨Below.refl _ _, rfl⟩
          dsimp only [setS, List.set]
          repeat
            first
            | (refine wpS_skip (b := true) rfl (guard_mk rfl rfl) ?_)
            | (refine wpS_skip (b := false) rfl (guard_mk rfl rfl) ?_)
            | (refine wpS_skipU rfl (guardU_mk rfl rfl) ?_)
            | (first | apply wpS_c rfl | apply wpS_gc rfl (guard_mk rfl rfl)
               focus
                 intro ev wx hC hx
                 (try simp [Op.operands, Call.operands, opndS, Slot.holds] at hx)
                 go_simp
                 try (first | exact rfl | exact ⟨Below.refl _ _, rfl⟩)
                 done)
            dsimp only [setS, List.set]
          apply wpS_gc rfl (guard_mk rfl rfl)
          focus
            intro ev wx hC hx
            (try simp [Op.operands, Call.operands, opndS, Slot.holds] at hx)
            obtain ⟨p0, p1, p2⟩ := F1.out _ hC
            go_simp
            first | exact rfl | exact ⟨Below.refl _ _, rfl⟩
          dsimp only [setS, List.set]
          apply wpS_gc rfl (guard_mk rfl rfl)
          focus
            intro ev wx hC hx
            (try simp [Op.operands, Call.operands, opndS, Slot.holds] at hx)
            go_simp
            go_at_call 11
            refine (HD.out _).mono ?_
            rintro e w' ⟨rfl, hb⟩
            first | exact ⟨rfl, hb⟩ | exact ⟨hb, rfl⟩
          dsimp only [setS, List.set]
          repeat
            first
            | (refine wpS_skip (b := true) rfl (guard_mk rfl rfl) ?_)
            | (refine wpS_skip (b := false) rfl (guard_mk rfl rfl) ?_)
            | (refine wpS_skipU rfl (guardU_mk rfl rfl) ?_)
            | (first | apply wpS_c rfl | apply wpS_gc rfl (guard_mk rfl rfl)
               focus
                 intro ev wx hC hx
                 (try simp [Op.operands, Call.operands, opndS, Slot.holds] at hx)
                 go_simp
                 try (first | exact rfl | exact ⟨Below.refl _ _, rfl⟩)
                 done)
            dsimp only [setS, List.set]
          refine wpS_nil (HQ _ fun w6 hC6 => ?_)
          simp only [closeS, List.drop_succ_cons, List.drop_zero, List.drop_nil]
          have HB6 := hide (HBX.out.trans (hC6.below.mono HBX.out.size))
          have HB7 := hide (HBx.out.trans (hC6.below.mono HBx.out.size))
          have HC6 := hide hC6.below
          clear HQ hC6
          have e0 := (HC6.out.cell (lt_heap HE0.out)).trans HE0.out
          rw [Nat.zero_add] at e0
          go_wp2
          go_roundw
          case rel => exact ⟨y, rfl, HS, HB7⟩
          case measure => simp [intOf]; exact HM.out
end Go.Proofs.YtbpkclopcoaikaaGreatDoor
