/- The walk of the law ListsLimits. -/
import Derived.Test.YtjiijhbkbmnhbaaLOkW
import Derived.Test.YtjiijhbkbmnhbaaRegV
namespace Go.Proofs.Ytjiijhbkbmnhbaa
open Go.RowKit
set_option linter.unusedVariables false
set_option linter.unusedSimpArgs false
theorem okL_rng (s : Int) (n : Nat) (h0 : 0 ≤ s) (h : s + n ≤ 10000) : okL (rng s n) := ⟨fun x hx => by
  have := mem_rng.1 hx
  unfold inR; omega, asc_rng s n⟩
theorem lim_two (n m o : Nat) (h1 : o ≤ n) (h2 : o ≤ m) (hn : n ≤ 4096) (hm : m ≤ 4096) : mergeM [rng 0 n, rng ((n : Int) - o) m] = if 4096 < n + m - o then ([], 2) else (rng 0 (n + m - o), 0) := by
  unfold mergeM
  rw [if_pos ((chkA_zero _).2 fun l hl => by
    simp at hl
    rcases hl with rfl | rfl
    · exact okL_chk (okL_rng _ _ (by omega) (by omega)) (by rw [rng_len]; exact hn)
    · exact okL_chk (okL_rng _ _ (by omega) (by omega)) (by rw [rng_len]; exact hm)), mrg_eq _ _ (by simp)]
  have e : List.foldl uni [] [rng 0 n, rng ((n : Int) - o) m] = rng 0 (n + m - o) := by rw [← uni_rng n m o h1 h2]; simp [uni]
  rw [e, rng_len]
theorem lim_three (n m o : Nat) (h1 : o ≤ n) (h2 : o ≤ m) (hn : n ≤ 4096) (hm : m ≤ 4096) : mergeM [rng ((n : Int) - o) m, rng 0 n, rng 0 n] = if 4096 < n + m - o then ([], 2) else (rng 0 (n + m - o), 0) := by
  unfold mergeM
  rw [if_pos ((chkA_zero _).2 fun l hl => by
    simp at hl
    rcases hl with rfl | rfl
    · exact okL_chk (okL_rng _ _ (by omega) (by omega)) (by rw [rng_len]; exact hm)
    · exact okL_chk (okL_rng _ _ (by omega) (by omega)) (by rw [rng_len]; exact hn)), mrg_eq _ _ (by simp)]
  have e : List.foldl uni [] [rng ((n : Int) - o) m, rng 0 n, rng 0 n] = rng 0 (n + m - o) := by
    have : List.foldl uni [] [rng ((n : Int) - o) m, rng 0 n, rng 0 n] = uni (uni (rng ((n : Int) - o) m) (rng 0 n)) (rng 0 n) := by simp [uni]
    rw [this, uni_rng' n m o h1 h2, uni_rng2 n (n + m - o) (by omega)]
  rw [e, rng_len]
/-- A made row, filled in part. -/
def rowI (s : Int) (k n : Nat) : List Value := (rng s k).map iv ++ List.replicate (n - k) (iv 0)
theorem rowI_set (s : Int) (k n : Nat) (h : k < n) : (rowI s k n).set k (iv (s + k)) = rowI s (k + 1) n := by
  unfold rowI
  rw [List.set_append_right _ _ (by simp [rng_len]), List.length_map, rng_len, Nat.sub_self, show n - k = (n - k - 1) + 1 by omega, List.replicate_succ, List.set_cons_zero, rng_succ, List.map_append, List.append_assoc, show n - (k + 1) = n - k - 1 by omega]
  rfl
theorem rowI_all (s : Int) (n : Nat) : rowI s n n = (rng s n).map iv := by unfold rowI; rw [Nat.sub_self]; simp
def RowAt (base : Nat) (v : Value) (n : Nat) (w : World) : Prop := ∃ g, v = .slice (some ⟨g, 0, none⟩) n n ∧ w.ownsRow base 3 1 v n (List.replicate n (iv 0))
/-- Two rows made in a drawn region. -/
def GL (W : World) (n m : Nat) : (Nat → Bool) → (Nat → Value) → World → Prop := fun L tm w =>
  Below W.heap.size W w ∧ (L 1 = true → RowAt W.heap.size (tm 44) n w) ∧ (L 3 = true → RowAt W.heap.size (tm 46) m w) ∧ (L 1 = true → L 3 = true → (tm 44).ownBlock ≠ (tm 46).ownBlock) ∧ (L 4 = true → L 1 = true ∧ tm 7 = tm 44)
theorem GL.start {W : World} {n m : Nat} {tm : Nat → Value} {w : World} (hb : Below W.heap.size W w) : GL W n m (fun _ => false) tm w :=
  ⟨hb, fun h => absurd h (by simp), fun h => absurd h (by simp), fun h => absurd h (by simp), fun h => absurd h (by simp)⟩
theorem GL.move {W : World} {n m : Nat} {L : Nat → Bool} {tm : Nat → Value} {w : World} (h : GL W n m L tm w) {i : Nat} (h1 : i ≠ 1) (h3 : i ≠ 3) (h4 : i ≠ 4) {t : Nat} (h44 : t ≠ 44) (h46 : t ≠ 46) (h7 : t ≠ 7) (u : Value) : GL W n m (upL L i) (putT (some t) u tm) w := by
  unfold GL upL putT at *
  simp only [Option.some.injEq, if_neg h44, if_neg h46, if_neg h7, if_neg (Ne.symm h1), if_neg (Ne.symm h3), if_neg (Ne.symm h4)]
  exact h
theorem GL.assign {W : World} {n m : Nat} {L : Nat → Bool} {tm : Nat → Value} {w : World} (h : GL W n m L tm w) (h1 : L 1 = true) : GL W n m (upL L 4) (putT (some 7) (tm 44) tm) w := by
  obtain ⟨hb, g1, g3, g13, _⟩ := h
  exact ⟨hb, g1, g3, g13, fun _ => ⟨h1, rfl⟩⟩
theorem GL.make1 {W : World} {n m : Nat} {L : Nat → Bool} {tm : Nat → Value} {w : World} (h : GL W n m L tm w) (hL : L 1 = false) (hn : n ≤ maxLen) (C : Array Value) (hC : C = (List.replicate n (iv 0)).toArray) :
    GL W n m (upL L 1) (putT (some 44) (.slice (some ⟨w.heap.size, 0, none⟩) n n) tm) (w.alloc (.cells C 3)) := by
  obtain ⟨hb, h1, h2, h3, h4⟩ := h
  have hba := bl_alloc hb (.cells C 3)
  refine ⟨hba, fun _ => ⟨w.heap.size, by simp [putT], by simp, .inr ⟨w.heap.size, n, C, by simp [putT], hb.size, heap_alloc_new w _, Nat.le_refl _, hn, by rw [hC]; simp, by rw [hC]; simp⟩⟩, fun hl => ?_, fun _ hl e => ?_, fun hl => ?_⟩
  · have hl : L 3 = true := hl
    obtain ⟨g, e, ho⟩ := h2 hl
    have e2 : putT (some 44) (Value.slice (some ⟨w.heap.size, 0, none⟩) n n) tm 46 = tm 46 := rfl
    rw [e2]
    exact ⟨g, e, own_below ho (bl_alloc (bl_refl w) _)⟩
  · have hl : L 3 = true := hl
    obtain ⟨g, e', ho⟩ := h2 hl
    have e2 : putT (some 44) (Value.slice (some ⟨w.heap.size, 0, none⟩) n n) tm 46 = tm 46 := rfl
    have e3 : putT (some 44) (Value.slice (some ⟨w.heap.size, 0, none⟩) n n) tm 44 = .slice (some ⟨w.heap.size, 0, none⟩) n n := rfl
    rw [e2, e3, e'] at e
    rw [e'] at ho
    have h5 := (ho.lt g rfl).2
    simp [Value.ownBlock] at e
    omega
  · have := (h4 hl).1
    rw [hL] at this; cases this
theorem GL.make3 {W : World} {n m : Nat} {L : Nat → Bool} {tm : Nat → Value} {w : World} (h : GL W n m L tm w) (hn : m ≤ maxLen) (C : Array Value) (hC : C = (List.replicate m (iv 0)).toArray) :
    GL W n m (upL L 3) (putT (some 46) (.slice (some ⟨w.heap.size, 0, none⟩) m m) tm) (w.alloc (.cells C 3)) := by
  obtain ⟨hb, h1, h2, h3, h4⟩ := h
  have hba := bl_alloc hb (.cells C 3)
  refine ⟨hba, fun hl => ?_, fun _ => ⟨w.heap.size, by simp [putT], by simp, .inr ⟨w.heap.size, m, C, by simp [putT], hb.size, heap_alloc_new w _, Nat.le_refl _, hn, by rw [hC]; simp, by rw [hC]; simp⟩⟩, fun hl _ e => ?_, fun hl => h4 hl⟩
  · have hl : L 1 = true := hl
    obtain ⟨g, e, ho⟩ := h1 hl
    have e2 : putT (some 46) (Value.slice (some ⟨w.heap.size, 0, none⟩) m m) tm 44 = tm 44 := rfl
    rw [e2]
    exact ⟨g, e, own_below ho (bl_alloc (bl_refl w) _)⟩
  · have hl : L 1 = true := hl
    obtain ⟨g, e', ho⟩ := h1 hl
    have e2 : putT (some 46) (Value.slice (some ⟨w.heap.size, 0, none⟩) m m) tm 44 = tm 44 := rfl
    have e3 : putT (some 46) (Value.slice (some ⟨w.heap.size, 0, none⟩) m m) tm 46 = .slice (some ⟨w.heap.size, 0, none⟩) m m := rfl
    rw [e2, e3, e'] at e
    rw [e'] at ho
    have h5 := (ho.lt g rfl).2
    simp [Value.ownBlock] at e
    omega
theorem grown_set (w : World) (g i : Nat) (v : Value) : w.grownBy (w.setCell ⟨g, i, none⟩ v) (some g) := ⟨rfl, rfl, rfl, by simp [World.setCell], fun k _ hk => heap_setCell_other w ⟨g, i, none⟩ k _ (fun e => hk (by rw [e]))⟩
namespace listsLimits
set_option maxHeartbeats 2000000 in
set_option maxRecDepth 100000 in
theorem walk (x y z : Int) (w : World) (w0 : (Lit.int .i64 x).wf = true) (w1 : (Lit.int .i64 y).wf = true) (w2 : (Lit.int .i64 z).wf = true) :
    Calls Try.prog 4 #[.int .i64 x, .int .i64 y, .int .i64 z] w fun e w' => e = .returned (.bool true) ∧ Below w.heap.size w w' := by
  clear w0 w1 w2
  go_enter Try.func4, Try.ntmps4
  by_cases h37370 : x < 0
  · go_wp2
    go_ret
    exact ⟨rfl, bl_refl _⟩
  by_cases h62184 : y < 0
  · go_wp2
    go_ret
    exact ⟨rfl, bl_refl _⟩
  by_cases h9459 : 4096 < x
  · go_wp2
    go_ret
    exact ⟨rfl, bl_refl _⟩
  by_cases h68576 : 4096 < y
  · go_wp2
    go_ret
    exact ⟨rfl, bl_refl _⟩
  by_cases h38123 : z < 0
  · go_wp2
    go_ret
    exact ⟨rfl, bl_refl _⟩
  by_cases h48633 : x < z
  · go_wp2
    go_ret
    exact ⟨rfl, bl_refl _⟩
  by_cases h11429 : y < z
  · go_wp2
    go_ret
    exact ⟨rfl, bl_refl _⟩
  obtain ⟨n, rfl⟩ := Int.eq_ofNat_of_zero_le (show 0 ≤ x by omega)
  obtain ⟨m, rfl⟩ := Int.eq_ofNat_of_zero_le (show 0 ≤ y by omega)
  obtain ⟨o, rfl⟩ := Int.eq_ofNat_of_zero_le (show 0 ≤ z by omega)
  have hn : n ≤ 4096 := by omega
  have hm : m ≤ 4096 := by omega
  have hon : o ≤ n := by omega
  have hom : o ≤ m := by omega
  obtain ⟨i2, hi2, hz0, hz1, hz2⟩ := info_parts info_int
  go_wp2_with fail
  have hmk : ∀ (k : Nat) (W : World), k ≤ 4096 → (Instr.makeSlice 22 (.int .i64 (k : Int)) (.int .i64 (k : Int))).run Try.prog W = .ok (.slice (some ⟨W.heap.size, 0, none⟩) k k) (W.alloc (.cells (List.replicate k (iv 0)).toArray 3)) := by
    intro k W hk
    rw [run_make_nc (P := Try.prog) 22 3 i2 _ Try.underlying22 hi2 hz0 .i64 .i64 k k (Nat.le_refl _) (by rw [hz2]; omega) (by omega) W, hz1, Nat.mul_one]
    have e : madeCells (Value.int .i64 0).cells k = (List.replicate k (iv 0)).toArray := made_arr (.int .i64 0) k
    rw [e]
  refine wp_region_V 5 (GL w n m) (fun _ _ _ => True) (by kernel_rfl) (by kernel_rfl) (by kernel_rfl) (GL.start (bl_drew (bl_refl w))) (fun Q HQ => ?_)
  simp only [List.take_succ_cons, List.take_zero, List.map_cons, List.map_nil]
  apply wpV_c rfl
  focus
    intro L tm ev wx hG hL hM hT hx
    clear hT
    (try simp [Op.operands, Call.operands, opndS, Slot.holds] at hx)
    go_simp
    exact ⟨hG.move (by decide) (by decide) (by decide) (by decide) (by decide) (by decide) _, trivial, rfl⟩
  dsimp only [setS, List.set]
  refine wpV_p (R := fun _ _ => True) rfl (fun _ _ _ _ _ _ _ _ => trivial) ?_ ?_
  focus
    intro L tm ev wx hG hL hM hT hx
    clear hT
    (try simp [Op.operands, Call.operands, opndS, Slot.holds] at hx)
    have hmn := hmk n wx hn
    go_simp
    exact ⟨hG.make1 hL (by simp only [maxLen]; omega) _ rfl, trivial, trivial⟩
  dsimp only [setS, List.set]
  apply wpV_c rfl
  focus
    intro L tm ev wx hG hL hM hT hx
    clear hT
    (try simp [Op.operands, Call.operands, opndS, Slot.holds] at hx)
    go_simp
    exact ⟨hG.move (by decide) (by decide) (by decide) (by decide) (by decide) (by decide) _, trivial, rfl⟩
  dsimp only [setS, List.set]
  refine wpV_p (R := fun _ _ => True) rfl (fun _ _ _ _ _ _ _ _ => trivial) ?_ ?_
  focus
    intro L tm ev wx hG hL hM hT hx
    clear hT
    (try simp [Op.operands, Call.operands, opndS, Slot.holds] at hx)
    have hmn := hmk m wx hm
    go_simp
    exact ⟨hG.make3 (by simp only [maxLen]; omega) _ rfl, trivial, trivial⟩
  dsimp only [setS, List.set]
  refine wpV_p (R := fun _ _ => True) rfl (fun _ _ _ _ _ _ _ _ => trivial) ?_ ?_
  focus
    intro L tm ev wx hG hL hM hT hx
    clear hx
    have h44 := hT 44
    clear hT
    go_simp
    exact ⟨hG.assign (hM 1 (by decide) (by kernel_rfl)), trivial, trivial⟩
  dsimp only [setS, List.set]
  refine wpV_nil (HQ _ fun w1 => ?_)
  simp only [closeS, List.drop_succ_cons, List.drop_zero]
  intro a7 _ a1 _ a2 _ hG
  obtain ⟨g1, e1, o1⟩ := hG.2.1 rfl
  obtain ⟨g2, e2, o2⟩ := hG.2.2.1 rfl
  have hne := hG.2.2.2.1 rfl rfl
  have e7 : a7 = a1 := (hG.2.2.2.2 rfl).2
  have e1 : a1 = .slice (some ⟨g1, 0, none⟩) n n := e1
  have e2 : a2 = .slice (some ⟨g2, 0, none⟩) m m := e2
  have hne : a1.ownBlock ≠ a2.ownBlock := hne
  have o1 : w1.ownsRow w.heap.size 3 1 a1 n (List.replicate n (iv 0)) := o1
  have o2 : w1.ownsRow w.heap.size 3 1 a2 m (List.replicate m (iv 0)) := o2
  subst e1 e2 e7
  have hg12 : g1 ≠ g2 := fun e => hne (by rw [e]; rfl)
  have HO1 : Hid (w1.ownsRow w.heap.size 3 1 (.slice (some ⟨g1, 0, none⟩) n n) n (rowI 0 0 n)) := hide o1
  have HO2 : Hid (w1.ownsRow w.heap.size 3 1 (.slice (some ⟨g2, 0, none⟩) m m) m (rowI ((n : Int) - o) 0 m)) := hide o2
  have HB1 := hide hG.1
  have hgw1 : w.heap.size ≤ g1 := (o1.lt g1 rfl).1
  have hgw2 : w.heap.size ≤ g2 := (o2.lt g2 rfl).1
  clear hG hne o1 o2 hmk HQ
  rename_i t1 t2 t3
  clear t1 t2 t3
  have HL2 := hide (lim_two n m o hon hom hn hm)
  have HL3 := hide (lim_three n m o hon hom hn hm)
  go_wp2_with fail
  go_loopw [49] (fun jv wr => ∃ k : Nat, jv = .int .i64 (k : Int) ∧ k ≤ n ∧ Hid (wr.ownsRow w.heap.size 3 1 (.slice (some ⟨g1, 0, none⟩) n n) n (rowI 0 k n)) ∧ Hid (wr.ownsRow w.heap.size 3 1 (.slice (some ⟨g2, 0, none⟩) m m) m (rowI ((n : Int) - o) 0 m)) ∧ Hid (Below w.heap.size w wr)) (fun jv _ => n - (intOf jv).toNat)
  case atStart => exact ⟨0, rfl, Nat.zero_le _, HO1, HO2, HB1⟩
  case round =>
    obtain ⟨k, rfl, hk, HA, HB, HW⟩ := hrel
    by_cases hlt : k < n
    · have hki : (k : Int) < (n : Int) := by omega
      obtain ⟨⟨v1, _, m1⟩, f1⟩ := own_at HA.out hlt
      have HS := hide (show (wr.setCell ⟨g1, k, none⟩ (.int .i64 (k : Int))).ownsRow w.heap.size 3 1 (.slice (some ⟨g1, 0, none⟩) n n) n (rowI 0 (k + 1) n) by
        have := own_set HA.out hlt (.int .i64 (k : Int))
        have e := rowI_set 0 k n hlt
        rw [show iv (0 + (k : Int)) = .int .i64 (k : Int) by unfold iv; rw [Int.zero_add]] at e
        rw [e] at this
        exact this)
      have HK := hide (World.ownsRow.kept HB.out (grown_set wr g1 k (.int .i64 (k : Int))) (.inr (by simp [Value.ownBlock]; omega)))
      have HW2 := hide (bl_set HW.out (p := ⟨g1, k, none⟩) hgw1 (.int .i64 (k : Int)))
      go_wp2
      go_roundw
      case rel => exact ⟨k + 1, by go_num, by omega, HS, HK, HW2⟩
      case measure => simp [intOf]; omega
    · obtain rfl : k = n := by omega
      generalize wr = wA at *
      go_wp2_with fail
      go_loopw [59] (fun jv wr => ∃ j : Nat, jv = .int .i64 (j : Int) ∧ j ≤ m ∧ Hid (wr.ownsRow w.heap.size 3 1 (.slice (some ⟨g1, 0, none⟩) k k) k (rowI 0 k k)) ∧ Hid (wr.ownsRow w.heap.size 3 1 (.slice (some ⟨g2, 0, none⟩) m m) m (rowI ((k : Int) - o) j m)) ∧ Hid (Below w.heap.size w wr)) (fun jv _ => m - (intOf jv).toNat)
      case atStart => exact ⟨0, rfl, Nat.zero_le _, HA, HB, HW⟩
      case round =>
        obtain ⟨j, rfl, hj, HA2, HB2, HW2⟩ := hrel
        by_cases hjm : j < m
        · have hji : (j : Int) < (m : Int) := by omega
          obtain ⟨⟨v1, _, m1⟩, f1⟩ := own_at HB2.out hjm
          have HS := hide (show (wr.setCell ⟨g2, j, none⟩ (.int .i64 ((k : Int) - o + j))).ownsRow w.heap.size 3 1 (.slice (some ⟨g2, 0, none⟩) m m) m (rowI ((k : Int) - o) (j + 1) m) by
            have := own_set HB2.out hjm (.int .i64 ((k : Int) - o + j))
            have e := rowI_set ((k : Int) - o) j m hjm
            rw [show iv ((k : Int) - o + (j : Int)) = .int .i64 ((k : Int) - o + j) from rfl] at e
            rw [e] at this
            exact this)
          have HK := hide (World.ownsRow.kept HA2.out (grown_set wr g2 j (.int .i64 ((k : Int) - o + j))) (.inr (by simp [Value.ownBlock]; omega)))
          have HW3 := hide (bl_set HW2.out (p := ⟨g2, j, none⟩) hgw2 (.int .i64 ((k : Int) - o + j)))
          go_wp2
          go_roundw
          case rel => exact ⟨j + 1, by go_num, by omega, HK, HS, HW3⟩
          case measure => simp [intOf]; omega
        · obtain rfl : j = m := by omega
          have ha := HA2.out
          rw [rowI_all] at ha
          have hb := HB2.out
          rw [rowI_all] at hb
          obtain ⟨a1, c1, e1, hc1, hcm1, i1⟩ := own_isI ha (rng_len _ _).symm
          injection e1 with e11 e12 e13
          subst e11 e13
          obtain ⟨a2, c2, e2, hc2, hcm2, i2'⟩ := own_isI hb (rng_len _ _).symm
          injection e2 with e21 e22 e23
          subst e21 e23
          have HIA := hide i1
          have HIB := hide i2'
          have hk9 : k ≤ maxLen := hcm1
          have hj9 : j ≤ maxLen := hcm2
          clear ha hb i1 i2' e12 e22 hc1 hc2 hcm1 hcm2 HA HB HA2 HB2
          generalize wr = wB at *
          go_wp2_with fail
          refine (unionF_any (some ⟨g1, 0, none⟩) (some ⟨g2, 0, none⟩) k k j j _ _ wB HIA.out HIB.out (Nat.le_refl _) (Nat.le_refl _) hk9 hj9).mono ?_
          rintro e w3 ⟨⟨v3, rfl, ho3⟩, hb3⟩
          have HB3 := hide (HW2.out.trans (hb3.mono HW2.out.size))
          have HIA3 := hide (HIA.out.below hb3)
          have HIB3 := hide (HIB.out.below hb3)
          obtain ⟨r2, e2c, hr2⟩ : ∃ x y, mergeM [rng 0 k, rng ((k : Int) - o) j] = (x, y) := ⟨_, _, rfl⟩
          rw [hr2] at ho3 HL2 ⊢
          obtain ⟨y1, A3, c3, rfl, y2, y3, y4, y5⟩ := own_form ho3
          clear y1 y2 y3 y4 y5 ho3 hb3 hr2
          simp only
          go_wp2_with fail
          refine (merge_any _ 3 3 [rng ((k : Int) - o) j, rng 0 k, rng 0 k] _ (ll_three HIB3.out HIA3.out HIA3.out (Nat.le_refl _) (Nat.le_refl _) (Nat.le_refl _) hj9 hk9 hk9) (by decide)).mono ?_
          rintro e w4 ⟨⟨v4, rfl, ho4⟩, hb4⟩
          have HB4 := hide (HB3.out.trans ((bl_trans (bl_alloc (bl_refl w3) _) hb4).mono HB3.out.size))
          obtain ⟨r3, e3c, hr3⟩ : ∃ x y, mergeM [rng ((k : Int) - o) j, rng 0 k, rng 0 k] = (x, y) := ⟨_, _, rfl⟩
          rw [hr3] at ho4 HL3 ⊢
          obtain ⟨y1, A4, c4, rfl, y2, y3, y4, y5⟩ := own_form ho4
          clear y1 y2 y3 y4 y5 ho4 hb4 hr3
          simp only
          obtain ⟨l2, hl2⟩ : ∃ l, l = r2.length := ⟨_, rfl⟩
          obtain ⟨l3, hl3⟩ : ∃ l, l = r3.length := ⟨_, rfl⟩
          rw [← hl2, ← hl3]
          obtain ⟨q, hq⟩ : ∃ q, q = k + j - o := ⟨_, rfl⟩
          rw [← hq] at HL2 HL3
          have eq : (k : Int) + (j : Int) - (o : Int) = (q : Int) := by omega
          by_cases hbig : 4096 < q
          · have h2 := HL2.out
            have h3 := HL3.out
            rw [if_pos hbig] at h2 h3
            obtain ⟨rfl, rfl⟩ := Prod.mk.inj h2
            obtain ⟨rfl, rfl⟩ := Prod.mk.inj h3
            have hl2 : l2 = 0 := hl2
            have hl3 : l3 = 0 := hl3
            have t2 : (((l2 : Int) + (l3 : Int)) == 0) = true := by rw [beq_iff_eq]; omega
            have t3 : l2 + l3 = 0 := by omega
            have t4 : (l2 : Int) + (l3 : Int) = 0 := by omega
            have t1 : (4096 : Int) < (q : Int) := by omega
            clear h2 h3 HL2 HL3 hq hbig hl2 hl3 t3 t4
            go_wp2_with fail
            refine (awake_any w4).mono ?_
            rintro e w5 ⟨rfl, hb5⟩
            go_wp2
            go_ret
            exact ⟨rfl, HB4.out.trans (hb5.mono HB4.out.size)⟩
          · have h2 := HL2.out
            have h3 := HL3.out
            rw [if_neg hbig] at h2 h3
            obtain ⟨rfl, rfl⟩ := Prod.mk.inj h2
            obtain ⟨rfl, rfl⟩ := Prod.mk.inj h3
            rw [rng_len] at hl2 hl3
            subst hl2 hl3
            have t1 : ¬ (4096 : Int) < (l3 : Int) := by omega
            clear h2 h3 HL2 HL3 hbig
            have HQ := hide hq
            clear hq
            go_wp2_with fail
            refine (awake_any w4).mono ?_
            rintro e w5 ⟨rfl, hb5⟩
            go_wp2
            go_ret
            exact ⟨rfl, HB4.out.trans (hb5.mono HB4.out.size)⟩
end listsLimits
end Go.Proofs.Ytjiijhbkbmnhbaa
