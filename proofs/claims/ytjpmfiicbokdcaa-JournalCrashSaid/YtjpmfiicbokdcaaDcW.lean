/- The walk of the reference's with. -/
import Derived.Test.YtjpmfiicbokdcaaDbW
import Derived.Test.YtjpmfiicbokdcaaRegV
namespace Go.Proofs.Ytjpmfiicbokdcaa
open Go.RowKit
set_option linter.unusedVariables false
set_option linter.unusedSimpArgs false
theorem flat_take {α : Type} {enc : α → List Value} {s : Nat} (hs : ∀ x, (enc x).length = s) : ∀ (l : List α) (k : Nat), (l.flatMap enc).take (k * s) = (l.take k).flatMap enc
  | l, 0 => by simp
  | [], k + 1 => by simp
  | x :: l, k + 1 => by
    rw [List.flatMap_cons, List.take_succ_cons, List.flatMap_cons, Nat.succ_mul, Nat.add_comm, ← flat_take hs l k, List.take_append, hs]
    rw [List.take_of_length_le (by rw [hs]; omega), show s + k * s - s = k * s by omega]
theorem flat_drop {α : Type} {enc : α → List Value} {s : Nat} (hs : ∀ x, (enc x).length = s) : ∀ (l : List α) (k : Nat), (l.flatMap enc).drop (k * s) = (l.drop k).flatMap enc
  | l, 0 => by simp
  | [], k + 1 => by simp
  | x :: l, k + 1 => by
    rw [List.flatMap_cons, List.drop_succ_cons, Nat.succ_mul, Nat.add_comm, ← flat_drop hs l k, List.drop_append, hs]
    rw [List.drop_of_length_le (by rw [hs]; omega), show s + k * s - s = k * s by omega, List.nil_append]
theorem rd_part2 {w : World} {A : Option Addr} {xs : List Value} (h : Rd w A xs) (l c : Nat) (hc : c = l → xs.length ≤ l * 2) : Rd w (if c = l then A else A.map (·.add (l * 2))) (xs.drop (l * 2)) := by
  by_cases hcl : c = l
  · exact .inl (List.drop_eq_nil_of_le (hc hcl))
  · rw [if_neg hcl]
    rcases h with rfl | ⟨b, o, rfl, hb, hcell⟩
    · exact .inl (by simp)
    · refine .inr ⟨b, o + l * 2, by simp [Addr.add], hb, fun j v hv => ?_⟩
      rw [List.getElem?_drop] at hv
      have := hcell (l * 2 + j) v hv
      rw [show o + l * 2 + j = o + (l * 2 + j) by omega]
      exact this
theorem tw_eq {α : Type} {p : α → Bool} : ∀ {l : List α} {k : Nat}, (∀ j x, j < k → l[j]? = some x → p x = true) → (k = l.length ∨ ∃ x, l[k]? = some x ∧ p x = false) → l.takeWhile p = l.take k ∧ l.dropWhile p = l.drop k
  | [], k, _, _ => by simp
  | y :: l, 0, _, h2 => by
    rcases h2 with h2 | ⟨x, hx, hp⟩
    · simp at h2
    · simp at hx
      subst hx
      simp [List.takeWhile_cons, List.dropWhile_cons, hp]
  | y :: l, k + 1, h1, h2 => by
    have hy := h1 0 y (by omega) rfl
    have ih := tw_eq (p := p) (l := l) (k := k) (fun j x hj hx => h1 (j + 1) x (by omega) (by simpa using hx)) (by
      rcases h2 with h2 | ⟨x, hx, hp⟩
      · left; simpa using h2
      · right; exact ⟨x, by simpa using hx, hp⟩)
    rw [List.takeWhile_cons, List.dropWhile_cons, hy]
    simp [ih.1, ih.2]
theorem own_new (w : World) {base : Nat} (hb : base ≤ w.heap.size) (T : TypeId) (size n : Nat) (C : Array Value) (hC : C.size = n * size) (hn : n ≤ maxLen) : (w.alloc (.cells C T)).ownsRow base T size (.slice (some ⟨w.heap.size, 0, none⟩) n n) n C.toList :=
  ⟨by simpa using hC, .inr ⟨w.heap.size, n, C, rfl, hb, heap_alloc_new w _, Nat.le_refl _, hn, hC, by rw [List.take_of_length_le (by simp [hC])]⟩⟩
theorem own_baseG {w : World} {base base' size : Nat} {e : TypeId} {v : Value} {n : Nat} {xs : List Value} (h : w.ownsRow base e size v n xs) (hb : base' ≤ base) : w.ownsRow base' e size v n xs :=
  ⟨h.1, h.2.imp id fun ⟨g, cap, cur, h1, h2, h3⟩ => ⟨g, cap, cur, h1, by omega, h3⟩⟩
structure GW (W : World) (k : Nat) (x f : List Value) (L : Nat → Bool) (tm : Nat → Value) (w : World) : Prop where
  b : Below W.heap.size W w
  r0 : L 0 = true → L 4 = false → w.ownsRow W.heap.size 35 2 (tm 22) 0 []
  r4 : L 4 = true → L 7 = false → w.ownsRow W.heap.size 35 2 (tm 26) k f
  r6 : L 6 = true → L 7 = false → w.ownsRow W.heap.size 35 2 (tm 28) 1 x
  r7 : L 7 = true → w.ownsRow W.heap.size 35 2 (tm 29) (k + 1) (f ++ x)
  d0 : L 0 = true → L 4 = false → L 6 = true → ∀ q, (tm 22).ownBlock = some q → (tm 28).ownBlock ≠ some q
  d4 : L 4 = true → L 7 = false → L 6 = true → ∀ q, (tm 26).ownBlock = some q → (tm 28).ownBlock ≠ some q
  m4 : L 4 = true → L 0 = true
  m7 : L 7 = true → L 4 = true ∧ L 6 = true
theorem GW.move {W : World} {k : Nat} {x : List Value} {f : List Value} {L : Nat → Bool} {tm : Nat → Value} {w : World} (h : GW W k x f L tm w) {i t : Nat} (hi : i ≠ 0 ∧ i ≠ 4 ∧ i ≠ 6 ∧ i ≠ 7) (ht : t ≠ 22 ∧ t ≠ 26 ∧ t ≠ 28 ∧ t ≠ 29) (u : Value) : GW W k x f (upL L i) (putT (some t) u tm) w := by
  have e0 : upL L i 0 = L 0 := by unfold upL; rw [if_neg (Ne.symm hi.1)]
  have e4 : upL L i 4 = L 4 := by unfold upL; rw [if_neg (Ne.symm hi.2.1)]
  have e6 : upL L i 6 = L 6 := by unfold upL; rw [if_neg (Ne.symm hi.2.2.1)]
  have e7 : upL L i 7 = L 7 := by unfold upL; rw [if_neg (Ne.symm hi.2.2.2)]
  have t2 : putT (some t) u tm 22 = tm 22 := by unfold putT; rw [if_neg (fun e => ht.1 (by injection e))]
  have t6 : putT (some t) u tm 26 = tm 26 := by unfold putT; rw [if_neg (fun e => ht.2.1 (by injection e))]
  have t8 : putT (some t) u tm 28 = tm 28 := by unfold putT; rw [if_neg (fun e => ht.2.2.1 (by injection e))]
  have t9 : putT (some t) u tm 29 = tm 29 := by unfold putT; rw [if_neg (fun e => ht.2.2.2 (by injection e))]
  constructor
  · exact h.b
  · rw [e0, e4, t2]; exact h.r0
  · rw [e4, e7, t6]; exact h.r4
  · rw [e6, e7, t8]; exact h.r6
  · rw [e7, t9]; exact h.r7
  · rw [e0, e4, e6, t2, t8]; exact h.d0
  · rw [e4, e7, e6, t6, t8]; exact h.d4
  · rw [e4, e0]; exact h.m4
  · rw [e7, e4, e6]; exact h.m7
theorem GW.make0 {W : World} {k : Nat} {x f : List Value} {L : Nat → Bool} {tm : Nat → Value} {w : World} (h : GW W k x f L tm w) (hL : L 0 = false) :
    GW W k x f (upL L 0) (putT (some 22) (.slice (some ⟨w.heap.size, 0, none⟩) 0 0) tm) (w.alloc (.cells #[] 35)) := by
  have h4 : L 4 = false := by
    rcases e : L 4 with _ | _
    · rfl
    · rw [h.m4 e] at hL; cases hL
  have h7 : L 7 = false := by
    rcases e : L 7 with _ | _
    · rfl
    · rw [(h.m7 e).1] at h4; cases h4
  have hba := bl_alloc (bl_refl w) (.cells #[] 35)
  constructor
  · exact bl_alloc h.b _
  · intro _ _; exact own_new w h.b.size _ 2 0 #[] rfl (Nat.zero_le _)
  · intro h5; exact absurd (show L 4 = true from h5) (by rw [h4]; decide)
  · intro h5 h6; exact ownG_below (h.r6 h5 h6) hba
  · intro h5; exact absurd (show L 7 = true from h5) (by rw [h7]; decide)
  · intro _ _ h6 q hq e
    have hq : some w.heap.size = some q := hq
    injection hq with hq
    have := (ownG_lt (h.r6 h6 h7) e).2
    omega
  · intro h5; exact absurd (show L 4 = true from h5) (by rw [h4]; decide)
  · intro _; rfl
  · intro h5; exact absurd (show L 7 = true from h5) (by rw [h7]; decide)
theorem GW.make6 {W : World} {k : Nat} {x f : List Value} {L : Nat → Bool} {tm : Nat → Value} {w : World} (h : GW W k x f L tm w) (hL : L 6 = false) (C : Array Value) (hC : C.toList = x) (hx : x.length = 2) :
    GW W k x f (upL L 6) (putT (some 28) (.slice (some ⟨w.heap.size, 0, none⟩) 1 1) tm) (w.alloc (.cells C 35)) := by
  have h7 : L 7 = false := by
    rcases e : L 7 with _ | _
    · rfl
    · rw [(h.m7 e).2] at hL; cases hL
  have hba := bl_alloc (bl_refl w) (.cells C 35)
  constructor
  · exact bl_alloc h.b _
  · intro h5 h6; exact ownG_below (h.r0 h5 h6) hba
  · intro h5 h6; exact ownG_below (h.r4 h5 h6) hba
  · intro _ _; rw [← hC]; exact own_new w h.b.size _ 2 1 C (by rw [← Array.length_toList, hC, hx]) (by decide)
  · intro h5; exact absurd (show L 7 = true from h5) (by rw [h7]; decide)
  · intro h5 h6 _ q hq e
    have e : some w.heap.size = some q := e
    injection e with e
    have := (ownG_lt (h.r0 h5 h6) hq).2
    omega
  · intro h5 h6 _ q hq e
    have e : some w.heap.size = some q := e
    injection e with e
    have := (ownG_lt (h.r4 h5 h6) hq).2
    omega
  · exact h.m4
  · intro h5; exact absurd (show L 7 = true from h5) (by rw [h7]; decide)
theorem GW.app4 {W : World} {k : Nat} {x f : List Value} {L : Nat → Bool} {tm : Nat → Value} {w w' : World} (h : GW W k x f L tm w) (hL : L 4 = false) (h0 : L 0 = true) {v : Value} (h1 : w'.ownsRow W.heap.size 35 2 v k f) (hg : w.grownBy w' (tm 22).ownBlock) (hv : v.ownBlock = (tm 22).ownBlock ∨ v.ownBlock = some w.heap.size) :
    GW W k x f (upL L 4) (putT (some 26) v tm) w' := by
  have h7 : L 7 = false := by
    rcases e : L 7 with _ | _
    · rfl
    · rw [(h.m7 e).1] at hL; cases hL
  constructor
  · exact bl_grown h.b hg (fun q hq => (ownG_lt (h.r0 h0 hL) hq).1)
  · intro _ h5; exact absurd h5 (by simp [upL])
  · intro _ _; exact h1
  · intro h5 h6; exact ownG_blocks (h.r6 h5 h6) (fun q hq => hg.block q (ownG_lt (h.r6 h5 h6) hq).2 (fun e => h.d0 h0 hL h5 q e.symm hq))
  · intro h5; exact absurd (show L 7 = true from h5) (by rw [h7]; decide)
  · intro _ h5; exact absurd h5 (by simp [upL])
  · intro _ _ h6 q hq e
    have h6 : L 6 = true := h6
    have hq : v.ownBlock = some q := hq
    have e : (tm 28).ownBlock = some q := e
    rcases hv with hv | hv
    · exact h.d0 h0 hL h6 q (hv.symm.trans hq) e
    · have := (ownG_lt (h.r6 h6 h7) e).2
      rw [hq] at hv
      injection hv with hv
      omega
  · intro _; exact h0
  · intro h5; exact absurd (show L 7 = true from h5) (by rw [h7]; decide)
theorem GW.app7 {W : World} {k : Nat} {x f : List Value} {L : Nat → Bool} {tm : Nat → Value} {w w' : World} (h : GW W k x f L tm w) (hL : L 7 = false) (h4 : L 4 = true) (h6 : L 6 = true) {v : Value} (h1 : w'.ownsRow W.heap.size 35 2 v (k + 1) (f ++ x)) (hg : w.grownBy w' (tm 26).ownBlock) :
    GW W k x f (upL L 7) (putT (some 29) v tm) w' := by
  constructor
  · exact bl_grown h.b hg (fun q hq => (ownG_lt (h.r4 h4 hL) hq).1)
  · intro _ h5; exact absurd (show L 4 = false from h5) (by rw [h4]; decide)
  · intro _ h5; exact absurd h5 (by simp [upL])
  · intro _ h5; exact absurd h5 (by simp [upL])
  · intro _; exact h1
  · intro _ h5; exact absurd (show L 4 = false from h5) (by rw [h4]; decide)
  · intro _ h5; exact absurd h5 (by simp [upL])
  · exact h.m4
  · intro _; exact ⟨h4, h6⟩
set_option maxHeartbeats 4000000 in
set_option maxRecDepth 100000 in
theorem with_any (a : Option Addr) (n c : Nat) (l : List Ent) (x : Ent) (w : World) (h : RE w a n l) (hn : n ≤ 1000000000) (hc : n ≤ c) (hcm : c ≤ maxLen) :
    Calls Try.prog 78 #[.slice a n c, eV x] w fun e w' => ∃ v, e = .returned v ∧ w'.ownsRow w.heap.size 35 2 v (insM l x).length ((insM l x).flatMap encE) ∧ Below w.heap.size w w' := by
  have HO := hide h
  have HN := hide h.1
  obtain ⟨i0, hi0, hz0, hz1, hz2⟩ := info_parts info_entry
  obtain ⟨s, y⟩ := x
  unfold eV
  simp only []
  unfold maxLen at hcm
  clear h
  go_enter Try.func78, Try.ntmps78
  obtain ⟨W0, hW0⟩ : ∃ W0, W0 = w.alloc (.cells #[.string (bstr s), .int .i64 y] 35) := ⟨_, rfl⟩
  go_wp2_with fail
  rw [← hW0]
  have x0 : W0.cell? ⟨w.heap.size, 0, none⟩ = some (.string (bstr s)) := by rw [hW0, cell_of_row _ _ 0 _ _ (0, 0) (heap_alloc_new w _)]; rfl
  have x1 : W0.cell? ⟨w.heap.size, 1, none⟩ = some (.int .i64 y) := by rw [hW0, cell_of_row _ _ 1 _ _ (0, 0) (heap_alloc_new w _)]; rfl
  have HB0 := hide (show Below w.heap.size w W0 by rw [hW0]; exact bl_alloc (bl_refl w) _)
  have hlt0 : w.heap.size < W0.heap.size := by rw [hW0]; simp
  have HX := hide (And.intro x0 x1)
  have HRF := hide (bl_refl W0)
  clear hW0 x0 x1
  go_loopw [5] (fun kv wr => ∃ k : Nat, kv = .int .i64 (k : Int) ∧ k ≤ n ∧ Hid (∀ j e, j < k → l[j]? = some e → nlt e.1 s = true) ∧ Hid (Below W0.heap.size W0 wr)) (fun kv _ => n - (intOf kv).toNat)
  case atStart => exact ⟨0, rfl, by omega, hide (fun j e hj => absurd hj (by omega)), HRF⟩
  case round =>
    obtain ⟨k, rfl, hk, HK, HB⟩ := hrel
    have HBW := hide (HB0.out.trans (HB.out.mono HB0.out.size))
    have x0 : wr.cell? ⟨w.heap.size, 0, none⟩ = some (.string (bstr s)) := (HB.out.cell hlt0).trans HX.out.1
    have x1 : wr.cell? ⟨w.heap.size, 1, none⟩ = some (.int .i64 y) := (HB.out.cell hlt0).trans HX.out.2
    by_cases hlt : k < n
    · obtain ⟨b, o, t, z, rfl, hbl, hx, e0, e1⟩ := (HO.out.below HBW.out).at_ hlt
      have hkn : (k : Int) < (n : Int) := by omega
      have HKX := hide hx
      obtain ⟨r, hr⟩ : ∃ r, r = Op.bytesLess t s := ⟨_, rfl⟩
      have hr' := hr.symm
      have HRE := hide (show nlt t s = r from hr.symm)
      clear hx hr
      go_wp2_with fail
      refine wp_region_K 14 (by kernel_rfl) (by kernel_rfl) (fun Q HQ => ?_)
      simp only [List.take_succ_cons, List.take_zero, List.map_cons, List.map_nil]
      have f0 : ∀ wx, CB wr.drew wx → wx.cell? ⟨b, o + k * 2, none⟩ = some (.string (bstr t)) := fun wx h => h.cell e0
      have f1 : ∀ wx, CB wr.drew wx → wx.cell? ⟨w.heap.size, 0, none⟩ = some (.string (bstr s)) := fun wx h => h.cell x0
      repeat
        first
        | (refine wpS_skip (b := true) rfl (guard_mk rfl rfl) ?_)
        | (refine wpS_skip (b := false) rfl (guard_mk rfl rfl) ?_)
        | (refine wpS_skipU rfl (guardU_mk rfl rfl) ?_)
        | (first | apply wpS_c rfl | apply wpS_gc rfl (guard_mk rfl rfl)
           focus
             intro ev wx hC hx
             (try simp [Op.operands, Call.operands, opndS, Slot.holds] at hx)
             go_simp
             try (first | exact rfl | exact ⟨Below.refl _ _, rfl⟩)
             done)
        dsimp only [setS, List.set]
      refine wpS_nil (HQ _ fun w3 hC3 => ?_)
      simp only [closeS, List.drop_succ_cons, List.drop_zero, List.drop_nil]
      have HB3 := hide (HB.out.trans (hC3.below.mono HB.out.size))
      clear HQ f0 f1 hC3 e0 e1 x0 x1
      cases r with
      | true =>
        have HK2 := hide (show ∀ j e, j < k + 1 → l[j]? = some e → nlt e.1 s = true from fun j e hj he => by
          by_cases hjk : j = k
          · rw [hjk, HKX.out] at he; injection he with he; subst he; exact HRE.out
          · exact HK.out j e (by omega) he)
        go_wp2
        go_roundw
        case rel => exact ⟨k + 1, by go_num, by omega, HK2, HB3⟩
        case measure => simp [intOf]; omega
      | false =>
        have HBW3 := hide (HB0.out.trans (HB3.out.mono HB0.out.size))
        have HO1 := hide (HO.out.below HBW3.out)
        have HEND := hide (show k = l.length ∨ ∃ e, l[k]? = some e ∧ nlt e.1 s = false from .inr ⟨_, HKX.out, HRE.out⟩)
        have x0 : w3.cell? ⟨w.heap.size, 0, none⟩ = some (.string (bstr s)) := (HB3.out.cell hlt0).trans HX.out.1
        have x1 : w3.cell? ⟨w.heap.size, 1, none⟩ = some (.int .i64 y) := (HB3.out.cell hlt0).trans HX.out.2
        clear hkn hlt HKX HRE hr'
        go_wp2_with fail
        generalize w3 = W1 at *
        obtain ⟨A, hA⟩ : ∃ A, A = some (⟨b, o, none⟩ : Addr) := ⟨_, rfl⟩
        rw [← hA] at HO1 ⊢
        clear hA
        have HINS := hide (show insM l (s, y) = l.take k ++ (s, y) :: l.drop k by
          have := tw_eq (p := fun (e : Ent) => nlt e.1 s) (l := l) (k := k) (fun j e hj he => HK.out j e hj he) (HEND.out)
          unfold insM
          rw [this.1, this.2])
        have hkc : (k : Int) ≤ (c : Int) := by omega
        have HRA := hide (show Rd W1 A ((l.take k).flatMap encE) by
          have h1 := (HO1.out).2
          have h2 : (l.flatMap encE).take (k * 2) = (l.take k).flatMap encE := flat_take encE_len l k
          rw [← h2]
          exact h1.take _)
        have HY := hide (And.intro x0 x1)
        have hf0 : ∀ wx, Below W1.heap.size W1 wx → wx.cell? ⟨w.heap.size, 0, none⟩ = some (.string (bstr s)) := fun wx hb => (hb.cell (lt_heap HY.out.1)).trans HY.out.1
        have hf1 : ∀ wx, Below W1.heap.size W1 wx → wx.cell? ⟨w.heap.size, 1, none⟩ = some (.int .i64 y) := fun wx hb => (hb.cell (lt_heap HY.out.2)).trans HY.out.2
        have HF0 := hide hf0
        have HF1 := hide hf1
        have HRD := hide (show Rd W1 (if c = k then A else A.map (·.add (k * 2))) ((l.drop k).flatMap encE) by
          have h2 : (l.flatMap encE).drop (k * 2) = (l.drop k).flatMap encE := flat_drop encE_len l k
          rw [← h2]
          exact rd_part2 HO1.out.2 k c (fun e => by rw [flat_len encE_len, ← HN.out]; omega))
        have hk9 : k ≤ 1000000000 := by omega
        have HLT := hide (show (l.take k).length = k by rw [List.length_take]; have := HN.out; omega)
        have HLD := hide (show (l.drop k).length = n - k by rw [List.length_drop]; have := HN.out; omega)
        obtain ⟨fk, hfk⟩ : ∃ fk, fk = (l.take k).flatMap encE := ⟨_, rfl⟩
        have HFK := hide hfk
        have hfl : fk.length = k * 2 := by rw [hfk, flat_len encE_len, HLT.out]
        have HFL := hide hfl
        have HFO := hide (show ∀ u ∈ fk, u.oneCell' = true by rw [hfk]; exact encE_one _)
        rw [← hfk] at HRA
        clear hf0 hf1 hfk hfl x0 x1
        go_wp2_with fail
        by_cases hck : c = k
        · obtain rfl : k = c := hck.symm
          clear hck
          rw [if_pos rfl] at HRD
          refine wp_region_V 11 (GW W1 k (encE (s, y)) fk) (fun _ _ _ => True) (by kernel_rfl) (by kernel_rfl) (by kernel_rfl) (by constructor; exact bl_drew (bl_refl W1); all_goals (intro h; exact absurd h (by decide))) (fun Q HQ => ?_)
          simp only [List.take_succ_cons, List.take_zero, List.map_cons, List.map_nil]
          refine wpV_p (R := fun _ _ => True) rfl (fun _ _ _ _ _ _ _ _ => trivial) ?_ ?_
          focus
            intro L tm ev wx hG hL hM hT hx
            clear hT
            (try simp [Op.operands, Call.operands, opndS, Slot.holds] at hx)
            go_simp
            exact ⟨hG.make0 hL, trivial, trivial⟩
          dsimp only [setS, List.set]
          repeat
            first | apply wpV_c rfl | apply wpV_gc rfl (guard_mk rfl rfl)
            focus
              intro L tm ev wx hG hL hM hT hx
              clear hT
              (try simp [Op.operands, Call.operands, opndS, Slot.holds] at hx)
              go_simp
              exact ⟨hG.move (by decide) (by decide) _, trivial, rfl⟩
              done
            dsimp only [setS, List.set]
          refine wpV_p (R := fun _ _ => True) rfl (fun _ _ _ _ _ _ _ _ => trivial) ?_ ?_
          focus
            intro L tm ev wx hG hL hM hT hx
            have h22 := hT 22
            have h0 := hM 0 (by decide) (by kernel_rfl)
            clear hT
            (try simp [Op.operands, Call.operands, opndS, Slot.holds] at hx)
            obtain ⟨v', w', hrun, h2, h3, h4⟩ := run_append_rd (P := Try.prog) wx W1.heap.size 24 24 35 i0 _ 2 24 Try.underlying24 hi0 hz0 hz1 hz2 rfl (by omega) (tm 22) 0 [] (hG.r0 h0 hL) A k k fk HFL.out (Rd.below HRA.out hG.b) HFO.out (by simp only [maxLen]; omega) (by omega) hG.b.size
            unfold execOp
            simp only [resolve, invoke, builtin, Sem.run_bind, Sem.run_pure, Result.andThen_ok, List.map_toArray, List.map_cons, List.map_nil, h22, hx, hrun]
            rw [Nat.zero_add, List.nil_append] at h2
            exact ⟨hG.app4 hL h0 h2 h3 h4, trivial, trivial⟩
          dsimp only [setS, List.set]
          repeat
            first | apply wpV_c rfl | apply wpV_gc rfl (guard_mk rfl rfl)
            focus
              intro L tm ev wx hG hL hM hT hx
              clear hT
              (try simp [Op.operands, Call.operands, opndS, Slot.holds] at hx)
              have f0 := HF0.out wx hG.b
              have f1 := HF1.out wx hG.b
              go_simp
              exact ⟨hG.move (by decide) (by decide) _, trivial, rfl⟩
              done
            dsimp only [setS, List.set]
          refine wpV_p (R := fun _ _ => True) rfl (fun _ _ _ _ _ _ _ _ => trivial) ?_ ?_
          focus
            intro L tm ev wx hG hL hM hT hx
            clear hT
            (try simp [Op.operands, Call.operands, opndS, Slot.holds] at hx)
            go_simp
            exact ⟨hG.make6 hL _ rfl rfl, trivial, trivial⟩
          dsimp only [setS, List.set]
          refine wpV_p (R := fun _ _ => True) rfl (fun _ _ _ _ _ _ _ _ => trivial) ?_ ?_
          focus
            intro L tm ev wx hG hL hM hT hx
            have h26 := hT 26
            have h28 := hT 28
            have h4 := hM 4 (by decide) (by kernel_rfl)
            have h6 := hM 6 (by decide) (by kernel_rfl)
            clear hT hx
            obtain ⟨A8, c8, e28, -, hr8⟩ := ownG_form (hG.r6 h6 hL)
            obtain ⟨v', w', hrun, h2, h3, -⟩ := run_append_rd (P := Try.prog) wx W1.heap.size 24 24 35 i0 _ 2 24 Try.underlying24 hi0 hz0 hz1 hz2 rfl (by omega) (tm 26) k fk (hG.r4 h4 hL) A8 1 c8 (encE (s, y)) rfl hr8 (by intro u hu; simp [encE] at hu; rcases hu with rfl | rfl <;> rfl) (by simp only [maxLen]; omega) (by omega) hG.b.size
            unfold execOp
            simp only [resolve, invoke, builtin, Sem.run_bind, Sem.run_pure, Result.andThen_ok, List.map_toArray, List.map_cons, List.map_nil, h26, h28, e28, hrun]
            exact ⟨hG.app7 hL h4 h6 h2 h3, trivial, trivial⟩
          dsimp only [setS, List.set]
          repeat
            first | apply wpV_c rfl | apply wpV_gc rfl (guard_mk rfl rfl)
            focus
              intro L tm ev wx hG hL hM hT hx
              clear hT
              (try simp [Op.operands, Call.operands, opndS, Slot.holds] at hx)
              go_simp
              exact ⟨hG.move (by decide) (by decide) _, trivial, rfl⟩
              done
            dsimp only [setS, List.set]
          refine wpV_nil (HQ _ fun w2 => ?_)
          simp only [closeS, List.drop_succ_cons, List.drop_zero]
          rintro v22 - v26 - v28 - v29 - hG
          have ho : w2.ownsRow W1.heap.size 35 2 v29 (k + 1) (fk ++ encE (s, y)) := hG.r7 rfl
          have HB2 := hide hG.b
          have HO2 := hide (own_baseG ho (show w.heap.size ≤ W1.heap.size from Nat.le_trans HB0.out.size HB3.out.size))
          have HRD2 := hide (Rd.below HRD.out HB2.out)
          have HBT := hide (HB0.out.trans ((HB3.out.trans (HB2.out.mono HB3.out.size)).mono HB0.out.size))
          clear hG ho HQ
          go_wp2_with (at_builtin; go_loud (refine wpList_append_rd _ rfl (.tmp 29) (.tmp 32) 24 rfl w.heap.size 35 i0 _ 2 24 Try.underlying24 hi0 hz0 hz1 hz2 rfl (by omega) _ _ _ rfl HO2.out _ _ _ ((l.drop k).flatMap encE) rfl (by rw [flat_len encE_len, HLD.out]; try omega) HRD2.out (encE_one _) (by simp only [maxLen]; omega) (by omega) HBT.out.size ?_); intro v7 w7 ho7 hg7 hat7)
          have HO7 := hide (show w7.ownsRow w.heap.size 35 2 v7 (insM l (s, y)).length ((insM l (s, y)).flatMap encE) by
            have e1 : (insM l (s, y)).length = k + 1 + (n - k) := by rw [HINS.out, List.length_append, List.length_cons, HLT.out, HLD.out]; omega
            have e2 : (insM l (s, y)).flatMap encE = fk ++ encE (s, y) ++ (l.drop k).flatMap encE := by rw [HINS.out, HFK.out]; simp
            rw [e1, e2]
            first
            | exact ho7
            | (have e3 : n - k = 0 := by omega
               rw [e3]; exact ho7))
          have HB7 := hide (bl_grown HBT.out hg7 (fun q hq => (ownG_lt HO2.out hq).1))
          clear ho7 hg7 hat7
          go_ret
          exact ⟨_, rfl, HO7.out, HB7.out⟩
        · rw [if_neg hck] at HRD
          refine wp_region_V 11 (GW W1 k (encE (s, y)) fk) (fun _ _ _ => True) (by kernel_rfl) (by kernel_rfl) (by kernel_rfl) (by constructor; exact bl_drew (bl_refl W1); all_goals (intro h; exact absurd h (by decide))) (fun Q HQ => ?_)
          simp only [List.take_succ_cons, List.take_zero, List.map_cons, List.map_nil]
          refine wpV_p (R := fun _ _ => True) rfl (fun _ _ _ _ _ _ _ _ => trivial) ?_ ?_
          focus
            intro L tm ev wx hG hL hM hT hx
            clear hT
            (try simp [Op.operands, Call.operands, opndS, Slot.holds] at hx)
            go_simp
            exact ⟨hG.make0 hL, trivial, trivial⟩
          dsimp only [setS, List.set]
          repeat
            first | apply wpV_c rfl | apply wpV_gc rfl (guard_mk rfl rfl)
            focus
              intro L tm ev wx hG hL hM hT hx
              clear hT
              (try simp [Op.operands, Call.operands, opndS, Slot.holds] at hx)
              go_simp
              exact ⟨hG.move (by decide) (by decide) _, trivial, rfl⟩
              done
            dsimp only [setS, List.set]
          refine wpV_p (R := fun _ _ => True) rfl (fun _ _ _ _ _ _ _ _ => trivial) ?_ ?_
          focus
            intro L tm ev wx hG hL hM hT hx
            have h22 := hT 22
            have h0 := hM 0 (by decide) (by kernel_rfl)
            clear hT
            (try simp [Op.operands, Call.operands, opndS, Slot.holds] at hx)
            obtain ⟨v', w', hrun, h2, h3, h4⟩ := run_append_rd (P := Try.prog) wx W1.heap.size 24 24 35 i0 _ 2 24 Try.underlying24 hi0 hz0 hz1 hz2 rfl (by omega) (tm 22) 0 [] (hG.r0 h0 hL) A k c fk HFL.out (Rd.below HRA.out hG.b) HFO.out (by simp only [maxLen]; omega) (by omega) hG.b.size
            unfold execOp
            simp only [resolve, invoke, builtin, Sem.run_bind, Sem.run_pure, Result.andThen_ok, List.map_toArray, List.map_cons, List.map_nil, h22, hx, hrun]
            rw [Nat.zero_add, List.nil_append] at h2
            exact ⟨hG.app4 hL h0 h2 h3 h4, trivial, trivial⟩
          dsimp only [setS, List.set]
          repeat
            first | apply wpV_c rfl | apply wpV_gc rfl (guard_mk rfl rfl)
            focus
              intro L tm ev wx hG hL hM hT hx
              clear hT
              (try simp [Op.operands, Call.operands, opndS, Slot.holds] at hx)
              have f0 := HF0.out wx hG.b
              have f1 := HF1.out wx hG.b
              go_simp
              exact ⟨hG.move (by decide) (by decide) _, trivial, rfl⟩
              done
            dsimp only [setS, List.set]
          refine wpV_p (R := fun _ _ => True) rfl (fun _ _ _ _ _ _ _ _ => trivial) ?_ ?_
          focus
            intro L tm ev wx hG hL hM hT hx
            clear hT
            (try simp [Op.operands, Call.operands, opndS, Slot.holds] at hx)
            go_simp
            exact ⟨hG.make6 hL _ rfl rfl, trivial, trivial⟩
          dsimp only [setS, List.set]
          refine wpV_p (R := fun _ _ => True) rfl (fun _ _ _ _ _ _ _ _ => trivial) ?_ ?_
          focus
            intro L tm ev wx hG hL hM hT hx
            have h26 := hT 26
            have h28 := hT 28
            have h4 := hM 4 (by decide) (by kernel_rfl)
            have h6 := hM 6 (by decide) (by kernel_rfl)
            clear hT hx
            obtain ⟨A8, c8, e28, -, hr8⟩ := ownG_form (hG.r6 h6 hL)
            obtain ⟨v', w', hrun, h2, h3, -⟩ := run_append_rd (P := Try.prog) wx W1.heap.size 24 24 35 i0 _ 2 24 Try.underlying24 hi0 hz0 hz1 hz2 rfl (by omega) (tm 26) k fk (hG.r4 h4 hL) A8 1 c8 (encE (s, y)) rfl hr8 (by intro u hu; simp [encE] at hu; rcases hu with rfl | rfl <;> rfl) (by simp only [maxLen]; omega) (by omega) hG.b.size
            unfold execOp
            simp only [resolve, invoke, builtin, Sem.run_bind, Sem.run_pure, Result.andThen_ok, List.map_toArray, List.map_cons, List.map_nil, h26, h28, e28, hrun]
            exact ⟨hG.app7 hL h4 h6 h2 h3, trivial, trivial⟩
          dsimp only [setS, List.set]
          repeat
            first | apply wpV_c rfl | apply wpV_gc rfl (guard_mk rfl rfl)
            focus
              intro L tm ev wx hG hL hM hT hx
              clear hT
              (try simp [Op.operands, Call.operands, opndS, Slot.holds] at hx)
              go_simp
              exact ⟨hG.move (by decide) (by decide) _, trivial, rfl⟩
              done
            dsimp only [setS, List.set]
          refine wpV_nil (HQ _ fun w2 => ?_)
          simp only [closeS, List.drop_succ_cons, List.drop_zero]
          rintro v22 - v26 - v28 - v29 - hG
          have ho : w2.ownsRow W1.heap.size 35 2 v29 (k + 1) (fk ++ encE (s, y)) := hG.r7 rfl
          have HB2 := hide hG.b
          have HO2 := hide (own_baseG ho (show w.heap.size ≤ W1.heap.size from Nat.le_trans HB0.out.size HB3.out.size))
          have HRD2 := hide (Rd.below HRD.out HB2.out)
          have HBT := hide (HB0.out.trans ((HB3.out.trans (HB2.out.mono HB3.out.size)).mono HB0.out.size))
          clear hG ho HQ
          go_wp2_with (at_builtin; go_loud (refine wpList_append_rd _ rfl (.tmp 29) (.tmp 32) 24 rfl w.heap.size 35 i0 _ 2 24 Try.underlying24 hi0 hz0 hz1 hz2 rfl (by omega) _ _ _ rfl HO2.out _ _ _ ((l.drop k).flatMap encE) rfl (by rw [flat_len encE_len, HLD.out]; try omega) HRD2.out (encE_one _) (by simp only [maxLen]; omega) (by omega) HBT.out.size ?_); intro v7 w7 ho7 hg7 hat7)
          have HO7 := hide (show w7.ownsRow w.heap.size 35 2 v7 (insM l (s, y)).length ((insM l (s, y)).flatMap encE) by
            have e1 : (insM l (s, y)).length = k + 1 + (n - k) := by rw [HINS.out, List.length_append, List.length_cons, HLT.out, HLD.out]; omega
            have e2 : (insM l (s, y)).flatMap encE = fk ++ encE (s, y) ++ (l.drop k).flatMap encE := by rw [HINS.out, HFK.out]; simp
            rw [e1, e2]
            first
            | exact ho7
            | (have e3 : n - k = 0 := by omega
               rw [e3]; exact ho7))
          have HB7 := hide (bl_grown HBT.out hg7 (fun q hq => (ownG_lt HO2.out hq).1))
          clear ho7 hg7 hat7
          go_ret
          exact ⟨_, rfl, HO7.out, HB7.out⟩
    · have hkn : ¬ (k : Int) < (n : Int) := by omega
      have HEND := hide (show k = l.length ∨ ∃ e, l[k]? = some e ∧ nlt e.1 s = false from .inl (by have := HN.out; omega))
      clear x0 x1
      go_wp2_with fail
      refine wp_region_K 14 (by kernel_rfl) (by kernel_rfl) (fun Q HQ => ?_)
      simp only [List.take_succ_cons, List.take_zero, List.map_cons, List.map_nil]
      repeat
        first
        | (refine wpS_skip (b := true) rfl (guard_mk rfl rfl) ?_)
        | (refine wpS_skip (b := false) rfl (guard_mk rfl rfl) ?_)
        | (refine wpS_skipU rfl (guardU_mk rfl rfl) ?_)
        | (first | apply wpS_c rfl | apply wpS_gc rfl (guard_mk rfl rfl)
           focus
             intro ev wx hC hx
             (try simp [Op.operands, Call.operands, opndS, Slot.holds] at hx)
             go_simp
             try (first | exact rfl | exact ⟨Below.refl _ _, rfl⟩)
             done)
        dsimp only [setS, List.set]
      refine wpS_nil (HQ _ fun w3 hC3 => ?_)
      simp only [closeS, List.drop_succ_cons, List.drop_zero, List.drop_nil]
      have HB3 := hide (HB.out.trans (hC3.below.mono HB.out.size))
      clear HQ hC3
      have HBW3 := hide (HB0.out.trans (HB3.out.mono HB0.out.size))
      have HO1 := hide (HO.out.below HBW3.out)
      have x0 : w3.cell? ⟨w.heap.size, 0, none⟩ = some (.string (bstr s)) := (HB3.out.cell hlt0).trans HX.out.1
      have x1 : w3.cell? ⟨w.heap.size, 1, none⟩ = some (.int .i64 y) := (HB3.out.cell hlt0).trans HX.out.2
      clear hkn hlt
      go_wp2_with fail
      generalize w3 = W1 at *
      obtain ⟨A, hA⟩ : ∃ A, A = a := ⟨_, rfl⟩
      rw [← hA] at HO1 ⊢
      clear hA
      have HINS := hide (show insM l (s, y) = l.take k ++ (s, y) :: l.drop k by
        have := tw_eq (p := fun (e : Ent) => nlt e.1 s) (l := l) (k := k) (fun j e hj he => HK.out j e hj he) (HEND.out)
        unfold insM
        rw [this.1, this.2])
      have hkc : (k : Int) ≤ (c : Int) := by omega
      have HRA := hide (show Rd W1 A ((l.take k).flatMap encE) by
        have h1 := (HO1.out).2
        have h2 : (l.flatMap encE).take (k * 2) = (l.take k).flatMap encE := flat_take encE_len l k
        rw [← h2]
        exact h1.take _)
      have HY := hide (And.intro x0 x1)
      have hf0 : ∀ wx, Below W1.heap.size W1 wx → wx.cell? ⟨w.heap.size, 0, none⟩ = some (.string (bstr s)) := fun wx hb => (hb.cell (lt_heap HY.out.1)).trans HY.out.1
      have hf1 : ∀ wx, Below W1.heap.size W1 wx → wx.cell? ⟨w.heap.size, 1, none⟩ = some (.int .i64 y) := fun wx hb => (hb.cell (lt_heap HY.out.2)).trans HY.out.2
      have HF0 := hide hf0
      have HF1 := hide hf1
      have HRD := hide (show Rd W1 (if c = k then A else A.map (·.add (k * 2))) ((l.drop k).flatMap encE) by
        have h2 : (l.flatMap encE).drop (k * 2) = (l.drop k).flatMap encE := flat_drop encE_len l k
        rw [← h2]
        exact rd_part2 HO1.out.2 k c (fun e => by rw [flat_len encE_len, ← HN.out]; omega))
      have hk9 : k ≤ 1000000000 := by omega
      have HLT := hide (show (l.take k).length = k by rw [List.length_take]; have := HN.out; omega)
      have HLD := hide (show (l.drop k).length = n - k by rw [List.length_drop]; have := HN.out; omega)
      obtain ⟨fk, hfk⟩ : ∃ fk, fk = (l.take k).flatMap encE := ⟨_, rfl⟩
      have HFK := hide hfk
      have hfl : fk.length = k * 2 := by rw [hfk, flat_len encE_len, HLT.out]
      have HFL := hide hfl
      have HFO := hide (show ∀ u ∈ fk, u.oneCell' = true by rw [hfk]; exact encE_one _)
      rw [← hfk] at HRA
      clear hf0 hf1 hfk hfl x0 x1
      go_wp2_with fail
      by_cases hck : c = k
      · obtain rfl : k = c := hck.symm
        clear hck
        rw [if_pos rfl] at HRD
        refine wp_region_V 11 (GW W1 k (encE (s, y)) fk) (fun _ _ _ => True) (by kernel_rfl) (by kernel_rfl) (by kernel_rfl) (by constructor; exact bl_drew (bl_refl W1); all_goals (intro h; exact absurd h (by decide))) (fun Q HQ => ?_)
        simp only [List.take_succ_cons, List.take_zero, List.map_cons, List.map_nil]
        refine wpV_p (R := fun _ _ => True) rfl (fun _ _ _ _ _ _ _ _ => trivial) ?_ ?_
        focus
          intro L tm ev wx hG hL hM hT hx
          clear hT
          (try simp [Op.operands, Call.operands, opndS, Slot.holds] at hx)
          go_simp
          exact ⟨hG.make0 hL, trivial, trivial⟩
        dsimp only [setS, List.set]
        repeat
          first | apply wpV_c rfl | apply wpV_gc rfl (guard_mk rfl rfl)
          focus
            intro L tm ev wx hG hL hM hT hx
            clear hT
            (try simp [Op.operands, Call.operands, opndS, Slot.holds] at hx)
            go_simp
            exact ⟨hG.move (by decide) (by decide) _, trivial, rfl⟩
            done
          dsimp only [setS, List.set]
        refine wpV_p (R := fun _ _ => True) rfl (fun _ _ _ _ _ _ _ _ => trivial) ?_ ?_
        focus
          intro L tm ev wx hG hL hM hT hx
          have h22 := hT 22
          have h0 := hM 0 (by decide) (by kernel_rfl)
          clear hT
          (try simp [Op.operands, Call.operands, opndS, Slot.holds] at hx)
          obtain ⟨v', w', hrun, h2, h3, h4⟩ := run_append_rd (P := Try.prog) wx W1.heap.size 24 24 35 i0 _ 2 24 Try.underlying24 hi0 hz0 hz1 hz2 rfl (by omega) (tm 22) 0 [] (hG.r0 h0 hL) A k k fk HFL.out (Rd.below HRA.out hG.b) HFO.out (by simp only [maxLen]; omega) (by omega) hG.b.size
          unfold execOp
          simp only [resolve, invoke, builtin, Sem.run_bind, Sem.run_pure, Result.andThen_ok, List.map_toArray, List.map_cons, List.map_nil, h22, hx, hrun]
          rw [Nat.zero_add, List.nil_append] at h2
          exact ⟨hG.app4 hL h0 h2 h3 h4, trivial, trivial⟩
        dsimp only [setS, List.set]
        repeat
          first | apply wpV_c rfl | apply wpV_gc rfl (guard_mk rfl rfl)
          focus
            intro L tm ev wx hG hL hM hT hx
            clear hT
            (try simp [Op.operands, Call.operands, opndS, Slot.holds] at hx)
            have f0 := HF0.out wx hG.b
            have f1 := HF1.out wx hG.b
            go_simp
            exact ⟨hG.move (by decide) (by decide) _, trivial, rfl⟩
            done
          dsimp only [setS, List.set]
        refine wpV_p (R := fun _ _ => True) rfl (fun _ _ _ _ _ _ _ _ => trivial) ?_ ?_
        focus
          intro L tm ev wx hG hL hM hT hx
          clear hT
          (try simp [Op.operands, Call.operands, opndS, Slot.holds] at hx)
          go_simp
          exact ⟨hG.make6 hL _ rfl rfl, trivial, trivial⟩
        dsimp only [setS, List.set]
        refine wpV_p (R := fun _ _ => True) rfl (fun _ _ _ _ _ _ _ _ => trivial) ?_ ?_
        focus
          intro L tm ev wx hG hL hM hT hx
          have h26 := hT 26
          have h28 := hT 28
          have h4 := hM 4 (by decide) (by kernel_rfl)
          have h6 := hM 6 (by decide) (by kernel_rfl)
          clear hT hx
          obtain ⟨A8, c8, e28, -, hr8⟩ := ownG_form (hG.r6 h6 hL)
          obtain ⟨v', w', hrun, h2, h3, -⟩ := run_append_rd (P := Try.prog) wx W1.heap.size 24 24 35 i0 _ 2 24 Try.underlying24 hi0 hz0 hz1 hz2 rfl (by omega) (tm 26) k fk (hG.r4 h4 hL) A8 1 c8 (encE (s, y)) rfl hr8 (by intro u hu; simp [encE] at hu; rcases hu with rfl | rfl <;> rfl) (by simp only [maxLen]; omega) (by omega) hG.b.size
          unfold execOp
          simp only [resolve, invoke, builtin, Sem.run_bind, Sem.run_pure, Result.andThen_ok, List.map_toArray, List.map_cons, List.map_nil, h26, h28, e28, hrun]
          exact ⟨hG.app7 hL h4 h6 h2 h3, trivial, trivial⟩
        dsimp only [setS, List.set]
        repeat
          first | apply wpV_c rfl | apply wpV_gc rfl (guard_mk rfl rfl)
          focus
            intro L tm ev wx hG hL hM hT hx
            clear hT
            (try simp [Op.operands, Call.operands, opndS, Slot.holds] at hx)
            go_simp
            exact ⟨hG.move (by decide) (by decide) _, trivial, rfl⟩
            done
          dsimp only [setS, List.set]
        refine wpV_nil (HQ _ fun w2 => ?_)
        simp only [closeS, List.drop_succ_cons, List.drop_zero]
        rintro v22 - v26 - v28 - v29 - hG
        have ho : w2.ownsRow W1.heap.size 35 2 v29 (k + 1) (fk ++ encE (s, y)) := hG.r7 rfl
        have HB2 := hide hG.b
        have HO2 := hide (own_baseG ho (show w.heap.size ≤ W1.heap.size from Nat.le_trans HB0.out.size HB3.out.size))
        have HRD2 := hide (Rd.below HRD.out HB2.out)
        have HBT := hide (HB0.out.trans ((HB3.out.trans (HB2.out.mono HB3.out.size)).mono HB0.out.size))
        clear hG ho HQ
        go_wp2_with (at_builtin; go_loud (refine wpList_append_rd _ rfl (.tmp 29) (.tmp 32) 24 rfl w.heap.size 35 i0 _ 2 24 Try.underlying24 hi0 hz0 hz1 hz2 rfl (by omega) _ _ _ rfl HO2.out _ _ _ ((l.drop k).flatMap encE) rfl (by rw [flat_len encE_len, HLD.out]; try omega) HRD2.out (encE_one _) (by simp only [maxLen]; omega) (by omega) HBT.out.size ?_); intro v7 w7 ho7 hg7 hat7)
        have HO7 := hide (show w7.ownsRow w.heap.size 35 2 v7 (insM l (s, y)).length ((insM l (s, y)).flatMap encE) by
          have e1 : (insM l (s, y)).length = k + 1 + (n - k) := by rw [HINS.out, List.length_append, List.length_cons, HLT.out, HLD.out]; omega
          have e2 : (insM l (s, y)).flatMap encE = fk ++ encE (s, y) ++ (l.drop k).flatMap encE := by rw [HINS.out, HFK.out]; simp
          rw [e1, e2]
          first
          | exact ho7
          | (have e3 : n - k = 0 := by omega
             rw [e3]; exact ho7))
        have HB7 := hide (bl_grown HBT.out hg7 (fun q hq => (ownG_lt HO2.out hq).1))
        clear ho7 hg7 hat7
        go_ret
        exact ⟨_, rfl, HO7.out, HB7.out⟩
      · rw [if_neg hck] at HRD
        refine wp_region_V 11 (GW W1 k (encE (s, y)) fk) (fun _ _ _ => True) (by kernel_rfl) (by kernel_rfl) (by kernel_rfl) (by constructor; exact bl_drew (bl_refl W1); all_goals (intro h; exact absurd h (by decide))) (fun Q HQ => ?_)
        simp only [List.take_succ_cons, List.take_zero, List.map_cons, List.map_nil]
        refine wpV_p (R := fun _ _ => True) rfl (fun _ _ _ _ _ _ _ _ => trivial) ?_ ?_
        focus
          intro L tm ev wx hG hL hM hT hx
          clear hT
          (try simp [Op.operands, Call.operands, opndS, Slot.holds] at hx)
          go_simp
          exact ⟨hG.make0 hL, trivial, trivial⟩
        dsimp only [setS, List.set]
        repeat
          first | apply wpV_c rfl | apply wpV_gc rfl (guard_mk rfl rfl)
          focus
            intro L tm ev wx hG hL hM hT hx
            clear hT
            (try simp [Op.operands, Call.operands, opndS, Slot.holds] at hx)
            go_simp
            exact ⟨hG.move (by decide) (by decide) _, trivial, rfl⟩
            done
          dsimp only [setS, List.set]
        refine wpV_p (R := fun _ _ => True) rfl (fun _ _ _ _ _ _ _ _ => trivial) ?_ ?_
        focus
          intro L tm ev wx hG hL hM hT hx
          have h22 := hT 22
          have h0 := hM 0 (by decide) (by kernel_rfl)
          clear hT
          (try simp [Op.operands, Call.operands, opndS, Slot.holds] at hx)
          obtain ⟨v', w', hrun, h2, h3, h4⟩ := run_append_rd (P := Try.prog) wx W1.heap.size 24 24 35 i0 _ 2 24 Try.underlying24 hi0 hz0 hz1 hz2 rfl (by omega) (tm 22) 0 [] (hG.r0 h0 hL) A k c fk HFL.out (Rd.below HRA.out hG.b) HFO.out (by simp only [maxLen]; omega) (by omega) hG.b.size
          unfold execOp
          simp only [resolve, invoke, builtin, Sem.run_bind, Sem.run_pure, Result.andThen_ok, List.map_toArray, List.map_cons, List.map_nil, h22, hx, hrun]
          rw [Nat.zero_add, List.nil_append] at h2
          exact ⟨hG.app4 hL h0 h2 h3 h4, trivial, trivial⟩
        dsimp only [setS, List.set]
        repeat
          first | apply wpV_c rfl | apply wpV_gc rfl (guard_mk rfl rfl)
          focus
            intro L tm ev wx hG hL hM hT hx
            clear hT
            (try simp [Op.operands, Call.operands, opndS, Slot.holds] at hx)
            have f0 := HF0.out wx hG.b
            have f1 := HF1.out wx hG.b
            go_simp
            exact ⟨hG.move (by decide) (by decide) _, trivial, rfl⟩
            done
          dsimp only [setS, List.set]
        refine wpV_p (R := fun _ _ => True) rfl (fun _ _ _ _ _ _ _ _ => trivial) ?_ ?_
        focus
          intro L tm ev wx hG hL hM hT hx
          clear hT
          (try simp [Op.operands, Call.operands, opndS, Slot.holds] at hx)
          go_simp
          exact ⟨hG.make6 hL _ rfl rfl, trivial, trivial⟩
        dsimp only [setS, List.set]
        refine wpV_p (R := fun _ _ => True) rfl (fun _ _ _ _ _ _ _ _ => trivial) ?_ ?_
        focus
          intro L tm ev wx hG hL hM hT hx
          have h26 := hT 26
          have h28 := hT 28
          have h4 := hM 4 (by decide) (by kernel_rfl)
          have h6 := hM 6 (by decide) (by kernel_rfl)
          clear hT hx
          obtain ⟨A8, c8, e28, -, hr8⟩ := ownG_form (hG.r6 h6 hL)
          obtain ⟨v', w', hrun, h2, h3, -⟩ := run_append_rd (P := Try.prog) wx W1.heap.size 24 24 35 i0 _ 2 24 Try.underlying24 hi0 hz0 hz1 hz2 rfl (by omega) (tm 26) k fk (hG.r4 h4 hL) A8 1 c8 (encE (s, y)) rfl hr8 (by intro u hu; simp [encE] at hu; rcases hu with rfl | rfl <;> rfl) (by simp only [maxLen]; omega) (by omega) hG.b.size
          unfold execOp
          simp only [resolve, invoke, builtin, Sem.run_bind, Sem.run_pure, Result.andThen_ok, List.map_toArray, List.map_cons, List.map_nil, h26, h28, e28, hrun]
          exact ⟨hG.app7 hL h4 h6 h2 h3, trivial, trivial⟩
        dsimp only [setS, List.set]
        repeat
          first | apply wpV_c rfl | apply wpV_gc rfl (guard_mk rfl rfl)
          focus
            intro L tm ev wx hG hL hM hT hx
            clear hT
            (try simp [Op.operands, Call.operands, opndS, Slot.holds] at hx)
            go_simp
            exact ⟨hG.move (by decide) (by decide) _, trivial, rfl⟩
            done
          dsimp only [setS, List.set]
        refine wpV_nil (HQ _ fun w2 => ?_)
        simp only [closeS, List.drop_succ_cons, List.drop_zero]
        rintro v22 - v26 - v28 - v29 - hG
        have ho : w2.ownsRow W1.heap.size 35 2 v29 (k + 1) (fk ++ encE (s, y)) := hG.r7 rfl
        have HB2 := hide hG.b
        have HO2 := hide (own_baseG ho (show w.heap.size ≤ W1.heap.size from Nat.le_trans HB0.out.size HB3.out.size))
        have HRD2 := hide (Rd.below HRD.out HB2.out)
        have HBT := hide (HB0.out.trans ((HB3.out.trans (HB2.out.mono HB3.out.size)).mono HB0.out.size))
        clear hG ho HQ
        go_wp2_with (at_builtin; go_loud (refine wpList_append_rd _ rfl (.tmp 29) (.tmp 32) 24 rfl w.heap.size 35 i0 _ 2 24 Try.underlying24 hi0 hz0 hz1 hz2 rfl (by omega) _ _ _ rfl HO2.out _ _ _ ((l.drop k).flatMap encE) rfl (by rw [flat_len encE_len, HLD.out]; try omega) HRD2.out (encE_one _) (by simp only [maxLen]; omega) (by omega) HBT.out.size ?_); intro v7 w7 ho7 hg7 hat7)
        have HO7 := hide (show w7.ownsRow w.heap.size 35 2 v7 (insM l (s, y)).length ((insM l (s, y)).flatMap encE) by
          have e1 : (insM l (s, y)).length = k + 1 + (n - k) := by rw [HINS.out, List.length_append, List.length_cons, HLT.out, HLD.out]; omega
          have e2 : (insM l (s, y)).flatMap encE = fk ++ encE (s, y) ++ (l.drop k).flatMap encE := by rw [HINS.out, HFK.out]; simp
          rw [e1, e2]
          first
          | exact ho7
          | (have e3 : n - k = 0 := by omega
             rw [e3]; exact ho7))
        have HB7 := hide (bl_grown HBT.out hg7 (fun q hq => (ownG_lt HO2.out hq).1))
        clear ho7 hg7 hat7
        go_ret
        exact ⟨_, rfl, HO7.out, HB7.out⟩
end Go.Proofs.Ytjpmfiicbokdcaa
