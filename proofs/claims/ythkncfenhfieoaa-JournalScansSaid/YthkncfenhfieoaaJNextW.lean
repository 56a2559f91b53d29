/- The walk of the journal's next. -/
import Derived.Test.YthkncfenhfieoaaJEaW
import Derived.Laws.ResultCell
namespace Go.Proofs.Ythkncfenhfieoaa
open Go.RowKit
set_option linter.unusedVariables false
set_option linter.unusedSimpArgs false
/-- A new box: a property that lasts. -/
def NewBox (base : Nat) (C : Array Value) (t : TypeId) : Value → World → Prop := fun v w => base ≤ w.heap.size ∧ ∃ g, v = .pointer (some ⟨g, 0, none⟩) ∧ base ≤ g ∧ w.heap[g]? = some (.cells C t (0, 0))
theorem stab_box (base : Nat) (C : Array Value) (t : TypeId) : Stab (.p (NewBox base C t)) := fun u w w' hb ⟨h1, g, h2, h3, h4⟩ => ⟨Nat.le_trans h1 hb.size, g, h2, h3, by
  rw [hb.block g (Array.getElem?_eq_some_iff.1 h4).1]; exact h4⟩
theorem box_new {base : Nat} {C : Array Value} {t : TypeId} (w : World) (h : base ≤ w.heap.size) : NewBox base C t (.pointer (some ⟨w.heap.size, 0, none⟩)) (w.alloc (.cells C t)) :=
  ⟨by simp; omega, w.heap.size, rfl, h, heap_alloc_new w _⟩
def recV (r : Rec) : Value := .agg #[.int .i64 r.1, .string (bstr r.2)]
/-- What next answers. -/
def nextV : Option Rec → Ending
  | none => .returned (.tuple #[.agg #[.int .i64 0, .string ⟨#[]⟩], .int .i64 0])
  | some r => .returned (.tuple #[recV r, .int .i64 ((9 + r.2.length : Nat) : Int)])
theorem nextM_short {l : List UInt8} (h : l.length < 9) : nextM l = none := by
  unfold nextM
  split
  · simp at h; omega
  · rfl
theorem chkM_none {n c : Nat} {k : UInt8} {t : List UInt8} (h : 1048576 < n ∨ t.length < n ∨ (k ≠ 1 ∧ k ≠ 2) ∨ crcN (k :: t.take n) ≠ c) : chkM n c k t = none := by
  unfold chkM
  rw [if_neg]
  rintro ⟨h1, h2, h3, h4⟩
  rcases h with h | h | ⟨h5, h6⟩ | h
  · omega
  · omega
  · rcases h3 with h3 | h3
    · exact h5 h3
    · exact h6 h3
  · exact h h4
theorem chkM_ok {n c : Nat} {k : UInt8} {t : List UInt8} (h1 : ¬ 1048576 < n) (h2 : ¬ t.length < n) (h3 : k = 1 ∨ k = 2) (h4 : crcN (k :: t.take n) = c) : chkM n c k t = some ((k.toNat : Int), t.take n) := by
  unfold chkM
  rw [if_pos ⟨by omega, by omega, h3, h4⟩]
theorem nine {l : List UInt8} (h : ¬ l.length < 9) : ∃ a b c d e f g h k t, l = a :: b :: c :: d :: e :: f :: g :: h :: k :: t := by
  match l, h with
  | a :: b :: c :: d :: e :: f :: g :: h :: k :: t, _ => exact ⟨a, b, c, d, e, f, g, h, k, t, rfl⟩
  | [], h => simp at h
  | [_], h => simp at h
  | [_, _], h => simp at h
  | [_, _, _], h => simp at h
  | [_, _, _, _], h => simp at h
  | [_, _, _, _, _], h => simp at h
  | [_, _, _, _, _, _], h => simp at h
  | [_, _, _, _, _, _, _], h => simp at h
  | [_, _, _, _, _, _, _, _], h => simp at h
set_option maxHeartbeats 2000000 in
set_option maxRecDepth 100000 in
theorem next_any (S : ByteArray) (l : List UInt8) (w : World) (hS : S = bstr l) (hl : l.length ≤ 100000) :
    Calls Try.prog 46 #[.string S] w fun e w' => e = nextV (nextM l) ∧ Below w.heap.size w w' := by
  have hm := str_size hS
  obtain ⟨m, hmm⟩ : ∃ m, m = l.length := ⟨_, rfl⟩
  rw [← hmm] at hm hl
  by_cases h9 : m < 9
  · have h9' : (m : Int) < 9 := by omega
    rw [nextM_short (by omega)]
    unfold nextV
    clear hS hmm h9 hl
    go_enter Try.func46, Try.ntmps46
    go_wp2
    refine bodyPost_ret (v := .tuple #[.agg #[.int .i64 0, .string ⟨#[]⟩], .int .i64 0]) (by rw [results_cell_tmp rfl]; go_simp) rfl ?_
    exact ⟨rfl, bl_alloc (bl_refl w) _⟩
  obtain ⟨a, b, c, d, e, f, g, h, k, t, rfl⟩ := nine (l := l) (by omega)
  have h9' : ¬ (m : Int) < 9 := by omega
  have hnext : nextM (a :: b :: c :: d :: e :: f :: g :: h :: k :: t) = chkM (be4 a b c d) (be4 e f g h) k t := rfl
  rw [hnext]
  clear hnext
  have hget := fun w => get_any S _ a b c d w hS rfl rfl rfl rfl
  have hk8 := str_get (i := 8) (c := k) hS rfl
  have HX9 := hide (fun n => str_sub hS 9 n)
  have HX8 := hide (fun n => str_sub hS 8 n)
  have HX4 := hide (fun n => str_sub hS 4 n)
  have htl : m = t.length + 9 := by rw [hmm]; simp
  have HS := hide hS
  clear hS hmm
  have hnl := be4_lt a b c d
  obtain ⟨n, hn⟩ : ∃ n, n = be4 a b c d := ⟨_, rfl⟩
  rw [← hn] at hget hnl ⊢
  clear hn
  have HG := hide hget
  clear hget
  by_cases h1 : 1048576 < n
  · have h1' : (1048576 : Int) < (n : Int) := by omega
    rw [chkM_none (.inl h1)]
    unfold nextV
    clear h9 hl h1 htl HX9 HX8 HX4
    go_enter Try.func46, Try.ntmps46
    go_wp2_with fail
    refine (HG.out _).mono ?_
    rintro e w2 ⟨rfl, hb2⟩
    have hb02 := bl_trans (bl_alloc (bl_refl w) _) hb2
    have hcl : w2.heap[w.heap.size]? = some (.cells #[.int .i64 0, .string ⟨#[]⟩] 37 (0, 0)) := (hb2.block _ (by simp)).trans (heap_alloc_new w _)
    have e0 : w2.cell? ⟨w.heap.size, 0, none⟩ = some (.int .i64 0) := cell_of_row w2 _ 0 _ _ _ hcl
    have e1 : w2.cell? ⟨w.heap.size, 1, none⟩ = some (.string ⟨#[]⟩) := cell_of_row w2 _ 1 _ _ _ hcl
    have fz : ∀ j, w2.frozen? ⟨w.heap.size, j, none⟩ = false := fun j => by simp [World.frozen?, hcl]
    clear hcl
    go_wp2
    refine bodyPost_ret (v := .tuple #[.agg #[.int .i64 0, .string ⟨#[]⟩], .int .i64 0]) (by rw [results_cell_tmp rfl]; go_simp) rfl ?_
    exact ⟨rfl, bl_set (p := ⟨w.heap.size, 1, none⟩) (bl_set (p := ⟨w.heap.size, 0, none⟩) hb02 (Nat.le_refl _) _) (Nat.le_refl _) _⟩
  obtain ⟨q, hq⟩ : ∃ q, q = 9 + n := ⟨_, rfl⟩
  have eq1 : (9 : Int) + (n : Int) = (q : Int) := by omega
  by_cases h2 : m < q
  · have h1' : ¬ (1048576 : Int) < (n : Int) := by omega
    have h2' : (m : Int) < (q : Int) := by omega
    rw [chkM_none (.inr (.inl (by omega)))]
    unfold nextV
    clear h9 hl h1 htl HX9 HX8 HX4 hq
    go_enter Try.func46, Try.ntmps46
    go_wp2_with fail
    refine (HG.out _).mono ?_
    rintro e w2 ⟨rfl, hb2⟩
    have hb02 := bl_trans (bl_alloc (bl_refl w) _) hb2
    have hcl : w2.heap[w.heap.size]? = some (.cells #[.int .i64 0, .string ⟨#[]⟩] 37 (0, 0)) := (hb2.block _ (by simp)).trans (heap_alloc_new w _)
    have e0 : w2.cell? ⟨w.heap.size, 0, none⟩ = some (.int .i64 0) := cell_of_row w2 _ 0 _ _ _ hcl
    have e1 : w2.cell? ⟨w.heap.size, 1, none⟩ = some (.string ⟨#[]⟩) := cell_of_row w2 _ 1 _ _ _ hcl
    have fz : ∀ j, w2.frozen? ⟨w.heap.size, j, none⟩ = false := fun j => by simp [World.frozen?, hcl]
    clear hcl
    go_wp2
    refine bodyPost_ret (v := .tuple #[.agg #[.int .i64 0, .string ⟨#[]⟩], .int .i64 0]) (by rw [results_cell_tmp rfl]; go_simp) rfl ?_
    exact ⟨rfl, bl_set (p := ⟨w.heap.size, 1, none⟩) (bl_set (p := ⟨w.heap.size, 0, none⟩) hb02 (Nat.le_refl _) _) (Nat.le_refl _) _⟩
  have h1' : ¬ (1048576 : Int) < (n : Int) := by omega
  have h2' : ¬ (m : Int) < (q : Int) := by omega
  have h3' : (q : Int) ≤ (m : Int) := by omega
  have h4' : (9 : Int) ≤ (q : Int) := by omega
  have h5' : (8 : Int) < (m : Int) := by omega
  have h6' : (8 : Int) ≤ (q : Int) := by omega
  have h7' : (4 : Int) ≤ (m : Int) := by omega
  have ewq : IntKind.i64.wrap (q : Int) = (q : Int) := by rw [IntKind.wrap_i64]; omega
  have htn : ¬ t.length < n := by omega
  obtain ⟨P9, hP9⟩ : ∃ P, P = S.extract 9 q := ⟨_, rfl⟩
  obtain ⟨P8, hP8⟩ : ∃ P, P = S.extract 8 q := ⟨_, rfl⟩
  obtain ⟨P4, hP4⟩ : ∃ P, P = S.extract 4 m := ⟨_, rfl⟩
  have hX9 : P9 = bstr (t.take n) := by rw [hP9, HX9.out, hq, Nat.add_comm]; rfl
  have hX8 : P8 = bstr (k :: t.take n) := by rw [hP8, HX8.out, hq, Nat.add_comm]; rfl
  have hX4 : P4 = bstr (e :: f :: g :: h :: k :: t) := by rw [hP4, HX4.out, List.take_of_length_le (by simp; omega)]; rfl
  have HP9 := hide hX9
  have HP8 := hide hX8
  have HP4 := hide hX4
  have hnt : (t.take n).length = n := by simp; omega
  have HNT := hide hnt
  have HQ9 := hide hq
  have HH2 := hide h2
  have HTN := hide htn
  have hq2 : q ≤ 100000 := by omega
  have HQ2 := hide hq2
  obtain ⟨z, hz⟩ : ∃ z : Int, z = (k.toNat : Int) := ⟨_, rfl⟩
  have hz1 : (k.toNat : Int) = z := hz.symm
  have hkt := k.toNat_lt
  have ewz : IntKind.i64.wrap z = z := by rw [hz, IntKind.wrap_i64]; omega
  have HZ := hide hz
  clear hX9 hX8 hX4 HX9 HX8 HX4 hnt hq h2 htn htl hz hkt h9 h1 hq2
  have hP9' := hP9.symm
  have hP8' := hP8.symm
  have hP4' := hP4.symm
  clear hP9 hP8 hP4
  obtain ⟨sv, hsv⟩ : ∃ sv, sv = crcN (k :: t.take n) := ⟨_, rfl⟩
  obtain ⟨gv, hgv⟩ : ∃ gv, gv = be4 e f g h := ⟨_, rfl⟩
  have HSV := hide hsv
  have HGV := hide hgv
  rw [← hgv]
  clear hsv hgv
  go_enter Try.func46, Try.ntmps46
  go_wp2_with fail
  refine (HG.out _).mono ?_
  rintro e w2 ⟨rfl, hb2⟩
  have hb02 := bl_trans (bl_alloc (bl_refl w) _) hb2
  have hcl : w2.heap[w.heap.size]? = some (.cells #[.int .i64 0, .string ⟨#[]⟩] 37 (0, 0)) := (hb2.block _ (by simp)).trans (heap_alloc_new w _)
  have hlt2 : w.heap.size < w2.heap.size := (Array.getElem?_eq_some_iff.1 hcl).1
  have HCL := hide hcl
  clear hcl HG
  go_wp2_with fail
  refine wp_region_K 9 (by kernel_rfl) (by kernel_rfl) (fun Q HQ => ?_)
  simp only [List.take_succ_cons, List.take_zero, List.map_cons, List.map_nil]
  repeat
    first | apply wpS_c rfl | apply wpS_gc rfl (guard_mk rfl rfl)
    focus
      intro ev wx hC hx
      (try simp [Op.operands, Call.operands, opndS, Slot.holds] at hx)
      go_simp
      try (first | exact rfl | exact ⟨Below.refl _ _, rfl⟩)
      done
    dsimp only [setS, List.set]
  refine wpS_p (R := NewBox w2.heap.size #[.int .i64 0, .string ⟨#[]⟩] 37) rfl (stab_box _ _ _) ?_ ?_
  focus
    intro ev wx hC hx
    (try simp [Op.operands, Call.operands, opndS, Slot.holds] at hx)
    go_simp
    exact ⟨bl_alloc (bl_refl wx) _, box_new wx hC.below.size⟩
  dsimp only [setS, List.set]
  refine wpS_nil (HQ _ fun w3 hC3 => ?_)
  simp only [closeS, List.drop_succ_cons, List.drop_zero, List.drop_nil]
  clear HQ
  rintro v0 ⟨_, g0, rfl, hg0, hc0⟩
  have hb23 := hC3.below
  have hbw3 : Below w.heap.size w w3 := hb02.trans (hb23.mono hb02.size)
  have hr3 : w3.heap[w.heap.size]? = some (.cells #[.int .i64 0, .string ⟨#[]⟩] 37 (0, 0)) := (hb23.block _ hlt2).trans HCL.out
  have hg0' : w.heap.size ≤ g0 := by omega
  have hgne : ¬ g0 = w.heap.size := by omega
  have hgne' : ¬ w.heap.size = g0 := by omega
  have a0 : w3.cell? ⟨g0, 0, none⟩ = some (.int .i64 0) := cell_of_row w3 _ 0 _ _ _ hc0
  have a1 : w3.cell? ⟨g0, 1, none⟩ = some (.string ⟨#[]⟩) := cell_of_row w3 _ 1 _ _ _ hc0
  have fz0 : ∀ j, w3.frozen? ⟨g0, j, none⟩ = false := fun j => by simp [World.frozen?, hc0]
  obtain ⟨w4, hw4⟩ : ∃ w4, w4 = (w3.setCell ⟨g0, 0, none⟩ (.int .i64 z)).setCell ⟨g0, 1, none⟩ (.string P9) := ⟨_, rfl⟩
  have hbw4 : Below w.heap.size w w4 := by rw [hw4]; exact bl_set (p := ⟨g0, 1, none⟩) (bl_set (p := ⟨g0, 0, none⟩) hbw3 hg0' _) hg0' _
  have d0 : w4.cell? ⟨g0, 0, none⟩ = some (.int .i64 z) := by rw [hw4]; go_simp
  have d1 : w4.cell? ⟨g0, 1, none⟩ = some (.string P9) := by rw [hw4]; go_simp
  have hr4 : w4.heap[w.heap.size]? = some (.cells #[.int .i64 0, .string ⟨#[]⟩] 37 (0, 0)) := by
    rw [hw4]
    simp only [World.setCell, Array.getElem?_modify]
    rw [if_neg hgne, if_neg hgne]
    exact hr3
  have HR4 := hide hr4
  have HC0 := hide hc0
  clear hC3 hr3 hr4 hc0 hb02 hb2 hlt2 hb23 hbw3 HCL
  go_wp2_with fail
  rw [← hw4]
  clear hw4 a0 a1 fz0
  have f0 : ∀ wx, CB w4.drew wx → wx.cell? ⟨g0, 0, none⟩ = some (.int .i64 z) := fun wx h => h.cell d0
  have f1 : ∀ wx, CB w4.drew wx → wx.cell? ⟨g0, 1, none⟩ = some (.string P9) := fun wx h => h.cell d1
  by_cases hk1 : z = 1
  · subst hk1
    have HKK := hide (show k = 1 ∨ k = 2 from .inl (UInt8.toNat_inj.1 (by have := HZ.out; show _ = 1; omega)))
    by_cases heq : sv = gv
    · have hne : ((sv : Int) != (gv : Int)) = false := by rw [heq]; simp
      have HEQ := hide heq
      clear heq
      have hres := hide (chkM_ok (n := n) (c := gv) (k := k) (t := t) (by omega) HTN.out HKK.out (by rw [← HSV.out]; exact HEQ.out))
      refine wp_region_K 18 (by kernel_rfl) (by kernel_rfl) (fun Q HQ => ?_)
      simp only [List.take_succ_cons, List.take_zero, List.map_cons, List.map_nil]
      repeat
        first
        | (refine wpS_skip (b := true) rfl (guard_mk rfl rfl) ?_)
        | (refine wpS_skip (b := false) rfl (guard_mk rfl rfl) ?_)
        | (first | apply wpS_c rfl | apply wpS_gc rfl (guard_mk rfl rfl)
           focus
             intro ev wx hC hx
             (try simp [Op.operands, Call.operands, opndS, Slot.holds] at hx)
             go_simp
             try (first | exact rfl | exact ⟨Below.refl _ _, rfl⟩ | (go_at_call 31; refine (jsum_any _ (k :: t.take n) _ HP8.out (by rw [List.length_cons, HNT.out]; omega)).mono ?_; rintro e w' ⟨rfl, hb⟩; rw [← HSV.out]; exact ⟨rfl, hb⟩) | (go_at_call 28; refine (get_any _ _ e f g h _ HP4.out rfl rfl rfl rfl).mono ?_; rintro e w' ⟨rfl, hb⟩; rw [← HGV.out]; exact ⟨rfl, hb⟩))
             done)
        dsimp only [setS, List.set]
      refine wpS_nil (HQ _ fun w5 hC5 => ?_)
      simp only [closeS, List.drop_succ_cons, List.drop_zero, List.drop_nil]
      clear HQ f0 f1
      have hb45 := hC5.below
      have hbw5 : Below w.heap.size w w5 := hbw4.trans (hb45.mono hbw4.size)
      have hr5 : w5.heap[w.heap.size]? = some (.cells #[.int .i64 0, .string ⟨#[]⟩] 37 (0, 0)) := (hb45.block _ (Array.getElem?_eq_some_iff.1 HR4.out).1).trans HR4.out
      have e0 : w5.cell? ⟨w.heap.size, 0, none⟩ = some (.int .i64 0) := cell_of_row w5 _ 0 _ _ _ hr5
      have e1 : w5.cell? ⟨w.heap.size, 1, none⟩ = some (.string ⟨#[]⟩) := cell_of_row w5 _ 1 _ _ _ hr5
      have g0c : w5.cell? ⟨g0, 0, none⟩ = some (.int .i64 1) := (hb45.cell (lt_heap d0)).trans d0
      have g1c : w5.cell? ⟨g0, 1, none⟩ = some (.string P9) := (hb45.cell (lt_heap d1)).trans d1
      have fz : ∀ j, w5.frozen? ⟨w.heap.size, j, none⟩ = false := fun j => by simp [World.frozen?, hr5]
      clear hr5 hC5
      go_wp2
      refine bodyPost_ret (v := .tuple #[.agg #[.int .i64 1, .string P9], .int .i64 (q : Int)]) (by rw [results_cell_tmp rfl]; go_simp) rfl ?_
      refine ⟨?_, bl_set (p := ⟨w.heap.size, 1, none⟩) (bl_set (p := ⟨w.heap.size, 0, none⟩) hbw5 (Nat.le_refl _) _) (Nat.le_refl _) _⟩
      rw [hres.out]
      unfold nextV recV
      simp only
      rw [← HZ.out, ← HP9.out, HNT.out, ← HQ9.out]
    · have hne : ((sv : Int) != (gv : Int)) = true := by rw [bne_iff_ne]; omega
      have hres := hide (chkM_none (n := n) (c := gv) (k := k) (t := t) (.inr (.inr (.inr (by rw [← HSV.out]; exact heq)))))
      clear heq
      refine wp_region_K 18 (by kernel_rfl) (by kernel_rfl) (fun Q HQ => ?_)
      simp only [List.take_succ_cons, List.take_zero, List.map_cons, List.map_nil]
      repeat
        first
        | (refine wpS_skip (b := true) rfl (guard_mk rfl rfl) ?_)
        | (refine wpS_skip (b := false) rfl (guard_mk rfl rfl) ?_)
        | (first | apply wpS_c rfl | apply wpS_gc rfl (guard_mk rfl rfl)
           focus
             intro ev wx hC hx
             (try simp [Op.operands, Call.operands, opndS, Slot.holds] at hx)
             go_simp
             try (first | exact rfl | exact ⟨Below.refl _ _, rfl⟩ | (go_at_call 31; refine (jsum_any _ (k :: t.take n) _ HP8.out (by rw [List.length_cons, HNT.out]; omega)).mono ?_; rintro e w' ⟨rfl, hb⟩; rw [← HSV.out]; exact ⟨rfl, hb⟩) | (go_at_call 28; refine (get_any _ _ e f g h _ HP4.out rfl rfl rfl rfl).mono ?_; rintro e w' ⟨rfl, hb⟩; rw [← HGV.out]; exact ⟨rfl, hb⟩))
             done)
        dsimp only [setS, List.set]
      refine wpS_nil (HQ _ fun w5 hC5 => ?_)
      simp only [closeS, List.drop_succ_cons, List.drop_zero, List.drop_nil]
      clear HQ f0 f1
      have hb45 := hC5.below
      have hbw5 : Below w.heap.size w w5 := hbw4.trans (hb45.mono hbw4.size)
      have hr5 : w5.heap[w.heap.size]? = some (.cells #[.int .i64 0, .string ⟨#[]⟩] 37 (0, 0)) := (hb45.block _ (Array.getElem?_eq_some_iff.1 HR4.out).1).trans HR4.out
      have e0 : w5.cell? ⟨w.heap.size, 0, none⟩ = some (.int .i64 0) := cell_of_row w5 _ 0 _ _ _ hr5
      have e1 : w5.cell? ⟨w.heap.size, 1, none⟩ = some (.string ⟨#[]⟩) := cell_of_row w5 _ 1 _ _ _ hr5
      have fz : ∀ j, w5.frozen? ⟨w.heap.size, j, none⟩ = false := fun j => by simp [World.frozen?, hr5]
      clear hr5 hC5
      go_wp2
      refine bodyPost_ret (v := .tuple #[.agg #[.int .i64 0, .string ⟨#[]⟩], .int .i64 0]) (by rw [results_cell_tmp rfl]; go_simp) rfl ?_
      exact ⟨by rw [hres.out]; rfl, bl_set (p := ⟨w.heap.size, 1, none⟩) (bl_set (p := ⟨w.heap.size, 0, none⟩) hbw5 (Nat.le_refl _) _) (Nat.le_refl _) _⟩
  by_cases hk2 : z = 2
  · subst hk2
    have HKK := hide (show k = 1 ∨ k = 2 from .inr (UInt8.toNat_inj.1 (by have := HZ.out; show _ = 2; omega)))
    by_cases heq : sv = gv
    · have hne : ((sv : Int) != (gv : Int)) = false := by rw [heq]; simp
      have HEQ := hide heq
      clear heq
      have hres := hide (chkM_ok (n := n) (c := gv) (k := k) (t := t) (by omega) HTN.out HKK.out (by rw [← HSV.out]; exact HEQ.out))
      refine wp_region_K 18 (by kernel_rfl) (by kernel_rfl) (fun Q HQ => ?_)
      simp only [List.take_succ_cons, List.take_zero, List.map_cons, List.map_nil]
      repeat
        first
        | (refine wpS_skip (b := true) rfl (guard_mk rfl rfl) ?_)
        | (refine wpS_skip (b := false) rfl (guard_mk rfl rfl) ?_)
        | (first | apply wpS_c rfl | apply wpS_gc rfl (guard_mk rfl rfl)
           focus
             intro ev wx hC hx
             (try simp [Op.operands, Call.operands, opndS, Slot.holds] at hx)
             go_simp
             try (first | exact rfl | exact ⟨Below.refl _ _, rfl⟩ | (go_at_call 31; refine (jsum_any _ (k :: t.take n) _ HP8.out (by rw [List.length_cons, HNT.out]; omega)).mono ?_; rintro e w' ⟨rfl, hb⟩; rw [← HSV.out]; exact ⟨rfl, hb⟩) | (go_at_call 28; refine (get_any _ _ e f g h _ HP4.out rfl rfl rfl rfl).mono ?_; rintro e w' ⟨rfl, hb⟩; rw [← HGV.out]; exact ⟨rfl, hb⟩))
             done)
        dsimp only [setS, List.set]
      refine wpS_nil (HQ _ fun w5 hC5 => ?_)
      simp only [closeS, List.drop_succ_cons, List.drop_zero, List.drop_nil]
      clear HQ f0 f1
      have hb45 := hC5.below
      have hbw5 : Below w.heap.size w w5 := hbw4.trans (hb45.mono hbw4.size)
      have hr5 : w5.heap[w.heap.size]? = some (.cells #[.int .i64 0, .string ⟨#[]⟩] 37 (0, 0)) := (hb45.block _ (Array.getElem?_eq_some_iff.1 HR4.out).1).trans HR4.out
      have e0 : w5.cell? ⟨w.heap.size, 0, none⟩ = some (.int .i64 0) := cell_of_row w5 _ 0 _ _ _ hr5
      have e1 : w5.cell? ⟨w.heap.size, 1, none⟩ = some (.string ⟨#[]⟩) := cell_of_row w5 _ 1 _ _ _ hr5
      have g0c : w5.cell? ⟨g0, 0, none⟩ = some (.int .i64 2) := (hb45.cell (lt_heap d0)).trans d0
      have g1c : w5.cell? ⟨g0, 1, none⟩ = some (.string P9) := (hb45.cell (lt_heap d1)).trans d1
      have fz : ∀ j, w5.frozen? ⟨w.heap.size, j, none⟩ = false := fun j => by simp [World.frozen?, hr5]
      clear hr5 hC5
      go_wp2
      refine bodyPost_ret (v := .tuple #[.agg #[.int .i64 2, .string P9], .int .i64 (q : Int)]) (by rw [results_cell_tmp rfl]; go_simp) rfl ?_
      refine ⟨?_, bl_set (p := ⟨w.heap.size, 1, none⟩) (bl_set (p := ⟨w.heap.size, 0, none⟩) hbw5 (Nat.le_refl _) _) (Nat.le_refl _) _⟩
      rw [hres.out]
      unfold nextV recV
      simp only
      rw [← HZ.out, ← HP9.out, HNT.out, ← HQ9.out]
    · have hne : ((sv : Int) != (gv : Int)) = true := by rw [bne_iff_ne]; omega
      have hres := hide (chkM_none (n := n) (c := gv) (k := k) (t := t) (.inr (.inr (.inr (by rw [← HSV.out]; exact heq)))))
      clear heq
      refine wp_region_K 18 (by kernel_rfl) (by kernel_rfl) (fun Q HQ => ?_)
      simp only [List.take_succ_cons, List.take_zero, List.map_cons, List.map_nil]
      repeat
        first
        | (refine wpS_skip (b := true) rfl (guard_mk rfl rfl) ?_)
        | (refine wpS_skip (b := false) rfl (guard_mk rfl rfl) ?_)
        | (first | apply wpS_c rfl | apply wpS_gc rfl (guard_mk rfl rfl)
           focus
             intro ev wx hC hx
             (try simp [Op.operands, Call.operands, opndS, Slot.holds] at hx)
             go_simp
             try (first | exact rfl | exact ⟨Below.refl _ _, rfl⟩ | (go_at_call 31; refine (jsum_any _ (k :: t.take n) _ HP8.out (by rw [List.length_cons, HNT.out]; omega)).mono ?_; rintro e w' ⟨rfl, hb⟩; rw [← HSV.out]; exact ⟨rfl, hb⟩) | (go_at_call 28; refine (get_any _ _ e f g h _ HP4.out rfl rfl rfl rfl).mono ?_; rintro e w' ⟨rfl, hb⟩; rw [← HGV.out]; exact ⟨rfl, hb⟩))
             done)
        dsimp only [setS, List.set]
      refine wpS_nil (HQ _ fun w5 hC5 => ?_)
      simp only [closeS, List.drop_succ_cons, List.drop_zero, List.drop_nil]
      clear HQ f0 f1
      have hb45 := hC5.below
      have hbw5 : Below w.heap.size w w5 := hbw4.trans (hb45.mono hbw4.size)
      have hr5 : w5.heap[w.heap.size]? = some (.cells #[.int .i64 0, .string ⟨#[]⟩] 37 (0, 0)) := (hb45.block _ (Array.getElem?_eq_some_iff.1 HR4.out).1).trans HR4.out
      have e0 : w5.cell? ⟨w.heap.size, 0, none⟩ = some (.int .i64 0) := cell_of_row w5 _ 0 _ _ _ hr5
      have e1 : w5.cell? ⟨w.heap.size, 1, none⟩ = some (.string ⟨#[]⟩) := cell_of_row w5 _ 1 _ _ _ hr5
      have fz : ∀ j, w5.frozen? ⟨w.heap.size, j, none⟩ = false := fun j => by simp [World.frozen?, hr5]
      clear hr5 hC5
      go_wp2
      refine bodyPost_ret (v := .tuple #[.agg #[.int .i64 0, .string ⟨#[]⟩], .int .i64 0]) (by rw [results_cell_tmp rfl]; go_simp) rfl ?_
      exact ⟨by rw [hres.out]; rfl, bl_set (p := ⟨w.heap.size, 1, none⟩) (bl_set (p := ⟨w.heap.size, 0, none⟩) hbw5 (Nat.le_refl _) _) (Nat.le_refl _) _⟩
  have HKK := hide (show k ≠ 1 ∧ k ≠ 2 from ⟨fun h => hk1 (by rw [HZ.out, h]; rfl), fun h => hk2 (by rw [HZ.out, h]; rfl)⟩)
  have hz1' : (z != 1) = true := by simpa using hk1
  have hz2' : (z != 2) = true := by simpa using hk2
  clear hk1 hk2
  have hres := hide (chkM_none (n := n) (c := gv) (k := k) (t := t) (.inr (.inr (.inl HKK.out))))
  refine wp_region_K 18 (by kernel_rfl) (by kernel_rfl) (fun Q HQ => ?_)
  simp only [List.take_succ_cons, List.take_zero, List.map_cons, List.map_nil]
  repeat
    first
    | (refine wpS_skip (b := true) rfl (guard_mk rfl rfl) ?_)
    | (refine wpS_skip (b := false) rfl (guard_mk rfl rfl) ?_)
    | (first | apply wpS_c rfl | apply wpS_gc rfl (guard_mk rfl rfl)
       focus
         intro ev wx hC hx
         (try simp [Op.operands, Call.operands, opndS, Slot.holds] at hx)
         go_simp
         try (first | exact rfl | exact ⟨Below.refl _ _, rfl⟩)
         done)
    dsimp only [setS, List.set]
  refine wpS_nil (HQ _ fun w5 hC5 => ?_)
  simp only [closeS, List.drop_succ_cons, List.drop_zero, List.drop_nil]
  clear HQ f0 f1
  have hb45 := hC5.below
  have hbw5 : Below w.heap.size w w5 := hbw4.trans (hb45.mono hbw4.size)
  have hr5 : w5.heap[w.heap.size]? = some (.cells #[.int .i64 0, .string ⟨#[]⟩] 37 (0, 0)) := (hb45.block _ (Array.getElem?_eq_some_iff.1 HR4.out).1).trans HR4.out
  have e0 : w5.cell? ⟨w.heap.size, 0, none⟩ = some (.int .i64 0) := cell_of_row w5 _ 0 _ _ _ hr5
  have e1 : w5.cell? ⟨w.heap.size, 1, none⟩ = some (.string ⟨#[]⟩) := cell_of_row w5 _ 1 _ _ _ hr5
  have fz : ∀ j, w5.frozen? ⟨w.heap.size, j, none⟩ = false := fun j => by simp [World.frozen?, hr5]
  clear hr5 hC5
  go_wp2
  refine bodyPost_ret (v := .tuple #[.agg #[.int .i64 0, .string ⟨#[]⟩], .int .i64 0]) (by rw [results_cell_tmp rfl]; go_simp) rfl ?_
  exact ⟨by rw [hres.out]; rfl, bl_set (p := ⟨w.heap.size, 1, none⟩) (bl_set (p := ⟨w.heap.size, 0, none⟩) hbw5 (Nat.le_refl _) _) (Nat.le_refl _) _⟩
end Go.Proofs.Ythkncfenhfieoaa
