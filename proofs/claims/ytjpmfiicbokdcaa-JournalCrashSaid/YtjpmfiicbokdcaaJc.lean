/- The walk of the journal's next. The journal's iterator over the records of a file. The walk of the journal's Scan. -/
import Derived.Test.YtjpmfiicbokdcaaJb
import Derived.Laws.ResultCell
import Derived.RangeFuncNested
import Derived.RangeFuncBox
import Derived.RangeFuncBound
import Derived.RangeFuncCalls
import Derived.RangeFuncLeaves
import Derived.Shelf.Abstract
import Derived.Shelf.RegionOpen
import Derived.OwnWalkIn
import Derived.TacticsInMore
import Derived.LoopNIn
import Derived.LoopIn
namespace Go.Proofs.Ytjpmfiicbokdcaa
open Go.RowKit
set_option linter.unusedVariables false
set_option linter.unusedSimpArgs false
/-- A new box: a property that lasts. -/
def NewBox (base : Nat) (C : Array Value) (t : TypeId) : Value → World → Prop := fun v w => base ≤ w.heap.size ∧ ∃ g, v = .pointer (some ⟨g, 0, none⟩) ∧ base ≤ g ∧ w.heap[g]? = some (.cells C t (0, 0))
theorem stab_box (base : Nat) (C : Array Value) (t : TypeId) : Stab (.p (NewBox base C t)) := fun u w w' hb ⟨h1, g, h2, h3, h4⟩ => ⟨Nat.le_trans h1 hb.size, g, h2, h3, by
  rw [hb.block g (Array.getElem?_eq_some_iff.1 h4).1]; exact h4⟩
theorem box_new {base : Nat} {C : Array Value} {t : TypeId} (w : World) (h : base ≤ w.heap.size) : NewBox base C t (.pointer (some ⟨w.heap.size, 0, none⟩)) (w.alloc (.cells C t)) :=
  ⟨by simp; omega, w.heap.size, rfl, h, heap_alloc_new w _⟩
def recV (r : Rec) : Value := .agg #[.int .i64 r.1, .string (bstr r.2)]
/-- What next answers. -/
def nextV : Option Rec → Ending
  | none => .returned (.tuple #[.agg #[.int .i64 0, .string ⟨#[]⟩], .int .i64 0])
  | some r => .returned (.tuple #[recV r, .int .i64 ((9 + r.2.length : Nat) : Int)])
theorem nextM_short {l : List UInt8} (h : l.length < 9) : nextM l = none := by
  unfold nextM
  split
  · simp at h; omega
  · rfl
theorem chkM_none {n c : Nat} {k : UInt8} {t : List UInt8} (h : 1048576 < n ∨ t.length < n ∨ (k ≠ 1 ∧ k ≠ 2) ∨ crcN (k :: t.take n) ≠ c) : chkM n c k t = none := by
  unfold chkM
  rw [if_neg]
  rintro ⟨h1, h2, h3, h4⟩
  rcases h with h | h | ⟨h5, h6⟩ | h
  · omega
  · omega
  · rcases h3 with h3 | h3
    · exact h5 h3
    · exact h6 h3
  · exact h h4
theorem chkM_ok {n c : Nat} {k : UInt8} {t : List UInt8} (h1 : ¬ 1048576 < n) (h2 : ¬ t.length < n) (h3 : k = 1 ∨ k = 2) (h4 : crcN (k :: t.take n) = c) : chkM n c k t = some ((k.toNat : Int), t.take n) := by
  unfold chkM
  rw [if_pos ⟨by omega, by omega, h3, h4⟩]
theorem nine {l : List UInt8} (h : ¬ l.length < 9) : ∃ a b c d e f g h k t, l = a :: b :: c :: d :: e :: f :: g :: h :: k :: t := by
  match l, h with
  | a :: b :: c :: d :: e :: f :: g :: h :: k :: t, _ => exact ⟨a, b, c, d, e, f, g, h, k, t, rfl⟩
  | [], h => simp at h
  | [_], h => simp at h
  | [_, _], h => simp at h
  | [_, _, _], h => simp at h
  | [_, _, _, _], h => simp at h
  | [_, _, _, _, _], h => simp at h
  | [_, _, _, _, _, _], h => simp at h
  | [_, _, _, _, _, _, _], h => simp at h
  | [_, _, _, _, _, _, _, _], h => simp at h
set_option maxHeartbeats 2000000 in
set_option maxRecDepth 100000 in
theorem next_any (S : ByteArray) (l : List UInt8) (w : World) (hS : S = bstr l) (hl : l.length ≤ 100000) :
    Calls Try.prog 86 #[.string S] w fun e w' => e = nextV (nextM l) ∧ Below w.heap.size w w' := by
  have hm := str_size hS
  obtain ⟨m, hmm⟩ : ∃ m, m = l.length := ⟨_, rfl⟩
  rw [← hmm] at hm hl
  by_cases h9 : m < 9
  · have h9' : (m : Int) < 9 := by omega
    rw [nextM_short (by omega)]
    unfold nextV
    clear hS hmm h9 hl
    go_enter Try.func86, Try.ntmps86
    go_wp2
    refine bodyPost_ret (v := .tuple #[.agg #[.int .i64 0, .string ⟨#[]⟩], .int .i64 0]) (by rw [results_cell_tmp rfl]; go_simp) rfl ?_
    exact ⟨rfl, bl_alloc (bl_refl w) _⟩
  obtain ⟨a, b, c, d, e, f, g, h, k, t, rfl⟩ := nine (l := l) (by omega)
  have h9' : ¬ (m : Int) < 9 := by omega
  have hnext : nextM (a :: b :: c :: d :: e :: f :: g :: h :: k :: t) = chkM (be4 a b c d) (be4 e f g h) k t := rfl
  rw [hnext]
  clear hnext
  have hget := fun w => get_any S _ a b c d w hS rfl rfl rfl rfl
  have hk8 := str_get (i := 8) (c := k) hS rfl
  have HX9 := hide (fun n => str_sub hS 9 n)
  have HX8 := hide (fun n => str_sub hS 8 n)
  have HX4 := hide (fun n => str_sub hS 4 n)
  have htl : m = t.length + 9 := by rw [hmm]; simp
  have HS := hide hS
  clear hS hmm
  have hnl := be4_lt a b c d
  obtain ⟨n, hn⟩ : ∃ n, n = be4 a b c d := ⟨_, rfl⟩
  rw [← hn] at hget hnl ⊢
  clear hn
  have HG := hide hget
  clear hget
  by_cases h1 : 1048576 < n
  · have h1' : (1048576 : Int) < (n : Int) := by omega
    rw [chkM_none (.inl h1)]
    unfold nextV
    clear h9 hl h1 htl HX9 HX8 HX4
    go_enter Try.func86, Try.ntmps86
    go_wp2_with fail
    refine (HG.out _).mono ?_
    rintro e w2 ⟨rfl, hb2⟩
    have hb02 := bl_trans (bl_alloc (bl_refl w) _) hb2
    have hcl : w2.heap[w.heap.size]? = some (.cells #[.int .i64 0, .string ⟨#[]⟩] 90 (0, 0)) := (hb2.block _ (by simp)).trans (heap_alloc_new w _)
    have e0 : w2.cell? ⟨w.heap.size, 0, none⟩ = some (.int .i64 0) := cell_of_row w2 _ 0 _ _ _ hcl
    have e1 : w2.cell? ⟨w.heap.size, 1, none⟩ = some (.string ⟨#[]⟩) := cell_of_row w2 _ 1 _ _ _ hcl
    have fz : ∀ j, w2.frozen? ⟨w.heap.size, j, none⟩ = false := fun j => by simp [World.frozen?, hcl]
    clear hcl
    go_wp2
    refine bodyPost_ret (v := .tuple #[.agg #[.int .i64 0, .string ⟨#[]⟩], .int .i64 0]) (by rw [results_cell_tmp rfl]; go_simp) rfl ?_
    exact ⟨rfl, bl_set (p := ⟨w.heap.size, 1, none⟩) (bl_set (p := ⟨w.heap.size, 0, none⟩) hb02 (Nat.le_refl _) _) (Nat.le_refl _) _⟩
  obtain ⟨q, hq⟩ : ∃ q, q = 9 + n := ⟨_, rfl⟩
  have eq1 : (9 : Int) + (n : Int) = (q : Int) := by omega
  by_cases h2 : m < q
  · have h1' : ¬ (1048576 : Int) < (n : Int) := by omega
    have h2' : (m : Int) < (q : Int) := by omega
    rw [chkM_none (.inr (.inl (by omega)))]
    unfold nextV
    clear h9 hl h1 htl HX9 HX8 HX4 hq
    go_enter Try.func86, Try.ntmps86
    go_wp2_with fail
    refine (HG.out _).mono ?_
    rintro e w2 ⟨rfl, hb2⟩
    have hb02 := bl_trans (bl_alloc (bl_refl w) _) hb2
    have hcl : w2.heap[w.heap.size]? = some (.cells #[.int .i64 0, .string ⟨#[]⟩] 90 (0, 0)) := (hb2.block _ (by simp)).trans (heap_alloc_new w _)
    have e0 : w2.cell? ⟨w.heap.size, 0, none⟩ = some (.int .i64 0) := cell_of_row w2 _ 0 _ _ _ hcl
    have e1 : w2.cell? ⟨w.heap.size, 1, none⟩ = some (.string ⟨#[]⟩) := cell_of_row w2 _ 1 _ _ _ hcl
    have fz : ∀ j, w2.frozen? ⟨w.heap.size, j, none⟩ = false := fun j => by simp [World.frozen?, hcl]
    clear hcl
    go_wp2
    refine bodyPost_ret (v := .tuple #[.agg #[.int .i64 0, .string ⟨#[]⟩], .int .i64 0]) (by rw [results_cell_tmp rfl]; go_simp) rfl ?_
    exact ⟨rfl, bl_set (p := ⟨w.heap.size, 1, none⟩) (bl_set (p := ⟨w.heap.size, 0, none⟩) hb02 (Nat.le_refl _) _) (Nat.le_refl _) _⟩
  have h1' : ¬ (1048576 : Int) < (n : Int) := by omega
  have h2' : ¬ (m : Int) < (q : Int) := by omega
  have h3' : (q : Int) ≤ (m : Int) := by omega
  have h4' : (9 : Int) ≤ (q : Int) := by omega
  have h5' : (8 : Int) < (m : Int) := by omega
  have h6' : (8 : Int) ≤ (q : Int) := by omega
  have h7' : (4 : Int) ≤ (m : Int) := by omega
  have ewq : IntKind.i64.wrap (q : Int) = (q : Int) := by rw [IntKind.wrap_i64]; omega
  have htn : ¬ t.length < n := by omega
  obtain ⟨P9, hP9⟩ : ∃ P, P = S.extract 9 q := ⟨_, rfl⟩
  obtain ⟨P8, hP8⟩ : ∃ P, P = S.extract 8 q := ⟨_, rfl⟩
  obtain ⟨P4, hP4⟩ : ∃ P, P = S.extract 4 m := ⟨_, rfl⟩
  have hX9 : P9 = bstr (t.take n) := by rw [hP9, HX9.out, hq, Nat.add_comm]; rfl
  have hX8 : P8 = bstr (k :: t.take n) := by rw [hP8, HX8.out, hq, Nat.add_comm]; rfl
  have hX4 : P4 = bstr (e :: f :: g :: h :: k :: t) := by rw [hP4, HX4.out, List.take_of_length_le (by simp; omega)]; rfl
  have HP9 := hide hX9
  have HP8 := hide hX8
  have HP4 := hide hX4
  have hnt : (t.take n).length = n := by simp; omega
  have HNT := hide hnt
  have HQ9 := hide hq
  have HH2 := hide h2
  have HTN := hide htn
  have hq2 : q ≤ 100000 := by omega
  have HQ2 := hide hq2
  obtain ⟨z, hz⟩ : ∃ z : Int, z = (k.toNat : Int) := ⟨_, rfl⟩
  have hz1 : (k.toNat : Int) = z := hz.symm
  have hkt := k.toNat_lt
  have ewz : IntKind.i64.wrap z = z := by rw [hz, IntKind.wrap_i64]; omega
  have HZ := hide hz
  clear hX9 hX8 hX4 HX9 HX8 HX4 hnt hq h2 htn htl hz hkt h9 h1 hq2
  have hP9' := hP9.symm
  have hP8' := hP8.symm
  have hP4' := hP4.symm
  clear hP9 hP8 hP4
  obtain ⟨sv, hsv⟩ : ∃ sv, sv = crcN (k :: t.take n) := ⟨_, rfl⟩
  obtain ⟨gv, hgv⟩ : ∃ gv, gv = be4 e f g h := ⟨_, rfl⟩
  have HSV := hide hsv
  have HGV := hide hgv
  rw [← hgv]
  clear hsv hgv
  go_enter Try.func86, Try.ntmps86
  go_wp2_with fail
  refine (HG.out _).mono ?_
  rintro e w2 ⟨rfl, hb2⟩
  have hb02 := bl_trans (bl_alloc (bl_refl w) _) hb2
  have hcl : w2.heap[w.heap.size]? = some (.cells #[.int .i64 0, .string ⟨#[]⟩] 90 (0, 0)) := (hb2.block _ (by simp)).trans (heap_alloc_new w _)
  have hlt2 : w.heap.size < w2.heap.size := (Array.getElem?_eq_some_iff.1 hcl).1
  have HCL := hide hcl
  clear hcl HG
  go_wp2_with fail
  refine wp_region_K 9 (by kernel_rfl) (by kernel_rfl) (fun Q HQ => ?_)
  simp only [List.take_succ_cons, List.take_zero, List.map_cons, List.map_nil]
  repeat
    first | apply wpS_c rfl | apply wpS_gc rfl (guard_mk rfl rfl)
    focus
      intro ev wx hC hx
      (try simp [Op.operands, Call.operands, opndS, Slot.holds] at hx)
      go_simp
      try (first | exact rfl | exact ⟨Below.refl _ _, rfl⟩)
      done
    dsimp only [setS, List.set]
  refine wpS_p (R := NewBox w2.heap.size #[.int .i64 0, .string ⟨#[]⟩] 90) rfl (stab_box _ _ _) ?_ ?_
  focus
    intro ev wx hC hx
    (try simp [Op.operands, Call.operands, opndS, Slot.holds] at hx)
    go_simp
    exact ⟨bl_alloc (bl_refl wx) _, box_new wx hC.below.size⟩
  dsimp only [setS, List.set]
  refine wpS_nil (HQ _ fun w3 hC3 => ?_)
  simp only [closeS, List.drop_succ_cons, List.drop_zero, List.drop_nil]
  clear HQ
  rintro v0 ⟨_, g0, rfl, hg0, hc0⟩
  have hb23 := hC3.below
  have hbw3 : Below w.heap.size w w3 := hb02.trans (hb23.mono hb02.size)
  have hr3 : w3.heap[w.heap.size]? = some (.cells #[.int .i64 0, .string ⟨#[]⟩] 90 (0, 0)) := (hb23.block _ hlt2).trans HCL.out
  have hg0' : w.heap.size ≤ g0 := by omega
  have hgne : ¬ g0 = w.heap.size := by omega
  have hgne' : ¬ w.heap.size = g0 := by omega
  have a0 : w3.cell? ⟨g0, 0, none⟩ = some (.int .i64 0) := cell_of_row w3 _ 0 _ _ _ hc0
  have a1 : w3.cell? ⟨g0, 1, none⟩ = some (.string ⟨#[]⟩) := cell_of_row w3 _ 1 _ _ _ hc0
  have fz0 : ∀ j, w3.frozen? ⟨g0, j, none⟩ = false := fun j => by simp [World.frozen?, hc0]
  obtain ⟨w4, hw4⟩ : ∃ w4, w4 = (w3.setCell ⟨g0, 0, none⟩ (.int .i64 z)).setCell ⟨g0, 1, none⟩ (.string P9) := ⟨_, rfl⟩
  have hbw4 : Below w.heap.size w w4 := by rw [hw4]; exact bl_set (p := ⟨g0, 1, none⟩) (bl_set (p := ⟨g0, 0, none⟩) hbw3 hg0' _) hg0' _
  have d0 : w4.cell? ⟨g0, 0, none⟩ = some (.int .i64 z) := by rw [hw4]; go_simp
  have d1 : w4.cell? ⟨g0, 1, none⟩ = some (.string P9) := by rw [hw4]; go_simp
  have hr4 : w4.heap[w.heap.size]? = some (.cells #[.int .i64 0, .string ⟨#[]⟩] 90 (0, 0)) := by
    rw [hw4]
    simp only [World.setCell, Array.getElem?_modify]
    rw [if_neg hgne, if_neg hgne]
    exact hr3
  have HR4 := hide hr4
  have HC0 := hide hc0
  clear hC3 hr3 hr4 hc0 hb02 hb2 hlt2 hb23 hbw3 HCL
  go_wp2_with fail
  rw [← hw4]
  clear hw4 a0 a1 fz0
  have f0 : ∀ wx, CB w4.drew wx → wx.cell? ⟨g0, 0, none⟩ = some (.int .i64 z) := fun wx h => h.cell d0
  have f1 : ∀ wx, CB w4.drew wx → wx.cell? ⟨g0, 1, none⟩ = some (.string P9) := fun wx h => h.cell d1
  by_cases hk1 : z = 1
  · subst hk1
    have HKK := hide (show k = 1 ∨ k = 2 from .inl (UInt8.toNat_inj.1 (by have := HZ.out; show _ = 1; omega)))
    by_cases heq : sv = gv
    · have hne : ((sv : Int) != (gv : Int)) = false := by rw [heq]; simp
      have HEQ := hide heq
      clear heq
      have hres := hide (chkM_ok (n := n) (c := gv) (k := k) (t := t) (by omega) HTN.out HKK.out (by rw [← HSV.out]; exact HEQ.out))
      refine wp_region_K 18 (by kernel_rfl) (by kernel_rfl) (fun Q HQ => ?_)
      simp only [List.take_succ_cons, List.take_zero, List.map_cons, List.map_nil]
      repeat
        first
        | (refine wpS_skip (b := true) rfl (guard_mk rfl rfl) ?_)
        | (refine wpS_skip (b := false) rfl (guard_mk rfl rfl) ?_)
        | (first | apply wpS_c rfl | apply wpS_gc rfl (guard_mk rfl rfl)
           focus
             intro ev wx hC hx
             (try simp [Op.operands, Call.operands, opndS, Slot.holds] at hx)
             go_simp
             try (first | exact rfl | exact ⟨Below.refl _ _, rfl⟩ | (go_at_call 84; refine (jsum_any _ (k :: t.take n) _ HP8.out (by rw [List.length_cons, HNT.out]; omega)).mono ?_; rintro e w' ⟨rfl, hb⟩; rw [← HSV.out]; exact ⟨rfl, hb⟩) | (go_at_call 62; refine (get_any _ _ e f g h _ HP4.out rfl rfl rfl rfl).mono ?_; rintro e w' ⟨rfl, hb⟩; rw [← HGV.out]; exact ⟨rfl, hb⟩))
             done)
        dsimp only [setS, List.set]
      refine wpS_nil (HQ _ fun w5 hC5 => ?_)
      simp only [closeS, List.drop_succ_cons, List.drop_zero, List.drop_nil]
      clear HQ f0 f1
      have hb45 := hC5.below
      have hbw5 : Below w.heap.size w w5 := hbw4.trans (hb45.mono hbw4.size)
      have hr5 : w5.heap[w.heap.size]? = some (.cells #[.int .i64 0, .string ⟨#[]⟩] 90 (0, 0)) := (hb45.block _ (Array.getElem?_eq_some_iff.1 HR4.out).1).trans HR4.out
      have e0 : w5.cell? ⟨w.heap.size, 0, none⟩ = some (.int .i64 0) := cell_of_row w5 _ 0 _ _ _ hr5
      have e1 : w5.cell? ⟨w.heap.size, 1, none⟩ = some (.string ⟨#[]⟩) := cell_of_row w5 _ 1 _ _ _ hr5
      have g0c : w5.cell? ⟨g0, 0, none⟩ = some (.int .i64 1) := (hb45.cell (lt_heap d0)).trans d0
      have g1c : w5.cell? ⟨g0, 1, none⟩ = some (.string P9) := (hb45.cell (lt_heap d1)).trans d1
      have fz : ∀ j, w5.frozen? ⟨w.heap.size, j, none⟩ = false := fun j => by simp [World.frozen?, hr5]
      clear hr5 hC5
      go_wp2
      refine bodyPost_ret (v := .tuple #[.agg #[.int .i64 1, .string P9], .int .i64 (q : Int)]) (by rw [results_cell_tmp rfl]; go_simp) rfl ?_
      refine ⟨?_, bl_set (p := ⟨w.heap.size, 1, none⟩) (bl_set (p := ⟨w.heap.size, 0, none⟩) hbw5 (Nat.le_refl _) _) (Nat.le_refl _) _⟩
      rw [hres.out]
      unfold nextV recV
      simp only
      rw [← HZ.out, ← HP9.out, HNT.out, ← HQ9.out]
    · have hne : ((sv : Int) != (gv : Int)) = true := by rw [bne_iff_ne]; omega
      have hres := hide (chkM_none (n := n) (c := gv) (k := k) (t := t) (.inr (.inr (.inr (by rw [← HSV.out]; exact heq)))))
      clear heq
      refine wp_region_K 18 (by kernel_rfl) (by kernel_rfl) (fun Q HQ => ?_)
      simp only [List.take_succ_cons, List.take_zero, List.map_cons, List.map_nil]
      repeat
        first
        | (refine wpS_skip (b := true) rfl (guard_mk rfl rfl) ?_)
        | (refine wpS_skip (b := false) rfl (guard_mk rfl rfl) ?_)
        | (first | apply wpS_c rfl | apply wpS_gc rfl (guard_mk rfl rfl)
           focus
             intro ev wx hC hx
             (try simp [Op.operands, Call.operands, opndS, Slot.holds] at hx)
             go_simp
             try (first | exact rfl | exact ⟨Below.refl _ _, rfl⟩ | (go_at_call 84; refine (jsum_any _ (k :: t.take n) _ HP8.out (by rw [List.length_cons, HNT.out]; omega)).mono ?_; rintro e w' ⟨rfl, hb⟩; rw [← HSV.out]; exact ⟨rfl, hb⟩) | (go_at_call 62; refine (get_any _ _ e f g h _ HP4.out rfl rfl rfl rfl).mono ?_; rintro e w' ⟨rfl, hb⟩; rw [← HGV.out]; exact ⟨rfl, hb⟩))
             done)
        dsimp only [setS, List.set]
      refine wpS_nil (HQ _ fun w5 hC5 => ?_)
      simp only [closeS, List.drop_succ_cons, List.drop_zero, List.drop_nil]
      clear HQ f0 f1
      have hb45 := hC5.below
      have hbw5 : Below w.heap.size w w5 := hbw4.trans (hb45.mono hbw4.size)
      have hr5 : w5.heap[w.heap.size]? = some (.cells #[.int .i64 0, .string ⟨#[]⟩] 90 (0, 0)) := (hb45.block _ (Array.getElem?_eq_some_iff.1 HR4.out).1).trans HR4.out
      have e0 : w5.cell? ⟨w.heap.size, 0, none⟩ = some (.int .i64 0) := cell_of_row w5 _ 0 _ _ _ hr5
      have e1 : w5.cell? ⟨w.heap.size, 1, none⟩ = some (.string ⟨#[]⟩) := cell_of_row w5 _ 1 _ _ _ hr5
      have fz : ∀ j, w5.frozen? ⟨w.heap.size, j, none⟩ = false := fun j => by simp [World.frozen?, hr5]
      clear hr5 hC5
      go_wp2
      refine bodyPost_ret (v := .tuple #[.agg #[.int .i64 0, .string ⟨#[]⟩], .int .i64 0]) (by rw [results_cell_tmp rfl]; go_simp) rfl ?_
      exact ⟨by rw [hres.out]; rfl, bl_set (p := ⟨w.heap.size, 1, none⟩) (bl_set (p := ⟨w.heap.size, 0, none⟩) hbw5 (Nat.le_refl _) _) (Nat.le_refl _) _⟩
  by_cases hk2 : z = 2
  · subst hk2
    have HKK := hide (show k = 1 ∨ k = 2 from .inr (UInt8.toNat_inj.1 (by have := HZ.out; show _ = 2; omega)))
    by_cases heq : sv = gv
    · have hne : ((sv : Int) != (gv : Int)) = false := by rw [heq]; simp
      have HEQ := hide heq
      clear heq
      have hres := hide (chkM_ok (n := n) (c := gv) (k := k) (t := t) (by omega) HTN.out HKK.out (by rw [← HSV.out]; exact HEQ.out))
      refine wp_region_K 18 (by kernel_rfl) (by kernel_rfl) (fun Q HQ => ?_)
      simp only [List.take_succ_cons, List.take_zero, List.map_cons, List.map_nil]
      repeat
        first
        | (refine wpS_skip (b := true) rfl (guard_mk rfl rfl) ?_)
        | (refine wpS_skip (b := false) rfl (guard_mk rfl rfl) ?_)
        | (first | apply wpS_c rfl | apply wpS_gc rfl (guard_mk rfl rfl)
           focus
             intro ev wx hC hx
             (try simp [Op.operands, Call.operands, opndS, Slot.holds] at hx)
             go_simp
             try (first | exact rfl | exact ⟨Below.refl _ _, rfl⟩ | (go_at_call 84; refine (jsum_any _ (k :: t.take n) _ HP8.out (by rw [List.length_cons, HNT.out]; omega)).mono ?_; rintro e w' ⟨rfl, hb⟩; rw [← HSV.out]; exact ⟨rfl, hb⟩) | (go_at_call 62; refine (get_any _ _ e f g h _ HP4.out rfl rfl rfl rfl).mono ?_; rintro e w' ⟨rfl, hb⟩; rw [← HGV.out]; exact ⟨rfl, hb⟩))
             done)
        dsimp only [setS, List.set]
      refine wpS_nil (HQ _ fun w5 hC5 => ?_)
      simp only [closeS, List.drop_succ_cons, List.drop_zero, List.drop_nil]
      clear HQ f0 f1
      have hb45 := hC5.below
      have hbw5 : Below w.heap.size w w5 := hbw4.trans (hb45.mono hbw4.size)
      have hr5 : w5.heap[w.heap.size]? = some (.cells #[.int .i64 0, .string ⟨#[]⟩] 90 (0, 0)) := (hb45.block _ (Array.getElem?_eq_some_iff.1 HR4.out).1).trans HR4.out
      have e0 : w5.cell? ⟨w.heap.size, 0, none⟩ = some (.int .i64 0) := cell_of_row w5 _ 0 _ _ _ hr5
      have e1 : w5.cell? ⟨w.heap.size, 1, none⟩ = some (.string ⟨#[]⟩) := cell_of_row w5 _ 1 _ _ _ hr5
      have g0c : w5.cell? ⟨g0, 0, none⟩ = some (.int .i64 2) := (hb45.cell (lt_heap d0)).trans d0
      have g1c : w5.cell? ⟨g0, 1, none⟩ = some (.string P9) := (hb45.cell (lt_heap d1)).trans d1
      have fz : ∀ j, w5.frozen? ⟨w.heap.size, j, none⟩ = false := fun j => by simp [World.frozen?, hr5]
      clear hr5 hC5
      go_wp2
      refine bodyPost_ret (v := .tuple #[.agg #[.int .i64 2, .string P9], .int .i64 (q : Int)]) (by rw [results_cell_tmp rfl]; go_simp) rfl ?_
      refine ⟨?_, bl_set (p := ⟨w.heap.size, 1, none⟩) (bl_set (p := ⟨w.heap.size, 0, none⟩) hbw5 (Nat.le_refl _) _) (Nat.le_refl _) _⟩
      rw [hres.out]
      unfold nextV recV
      simp only
      rw [← HZ.out, ← HP9.out, HNT.out, ← HQ9.out]
    · have hne : ((sv : Int) != (gv : Int)) = true := by rw [bne_iff_ne]; omega
      have hres := hide (chkM_none (n := n) (c := gv) (k := k) (t := t) (.inr (.inr (.inr (by rw [← HSV.out]; exact heq)))))
      clear heq
      refine wp_region_K 18 (by kernel_rfl) (by kernel_rfl) (fun Q HQ => ?_)
      simp only [List.take_succ_cons, List.take_zero, List.map_cons, List.map_nil]
      repeat
        first
        | (refine wpS_skip (b := true) rfl (guard_mk rfl rfl) ?_)
        | (refine wpS_skip (b := false) rfl (guard_mk rfl rfl) ?_)
        | (first | apply wpS_c rfl | apply wpS_gc rfl (guard_mk rfl rfl)
           focus
             intro ev wx hC hx
             (try simp [Op.operands, Call.operands, opndS, Slot.holds] at hx)
             go_simp
             try (first | exact rfl | exact ⟨Below.refl _ _, rfl⟩ | (go_at_call 84; refine (jsum_any _ (k :: t.take n) _ HP8.out (by rw [List.length_cons, HNT.out]; omega)).mono ?_; rintro e w' ⟨rfl, hb⟩; rw [← HSV.out]; exact ⟨rfl, hb⟩) | (go_at_call 62; refine (get_any _ _ e f g h _ HP4.out rfl rfl rfl rfl).mono ?_; rintro e w' ⟨rfl, hb⟩; rw [← HGV.out]; exact ⟨rfl, hb⟩))
             done)
        dsimp only [setS, List.set]
      refine wpS_nil (HQ _ fun w5 hC5 => ?_)
      simp only [closeS, List.drop_succ_cons, List.drop_zero, List.drop_nil]
      clear HQ f0 f1
      have hb45 := hC5.below
      have hbw5 : Below w.heap.size w w5 := hbw4.trans (hb45.mono hbw4.size)
      have hr5 : w5.heap[w.heap.size]? = some (.cells #[.int .i64 0, .string ⟨#[]⟩] 90 (0, 0)) := (hb45.block _ (Array.getElem?_eq_some_iff.1 HR4.out).1).trans HR4.out
      have e0 : w5.cell? ⟨w.heap.size, 0, none⟩ = some (.int .i64 0) := cell_of_row w5 _ 0 _ _ _ hr5
      have e1 : w5.cell? ⟨w.heap.size, 1, none⟩ = some (.string ⟨#[]⟩) := cell_of_row w5 _ 1 _ _ _ hr5
      have fz : ∀ j, w5.frozen? ⟨w.heap.size, j, none⟩ = false := fun j => by simp [World.frozen?, hr5]
      clear hr5 hC5
      go_wp2
      refine bodyPost_ret (v := .tuple #[.agg #[.int .i64 0, .string ⟨#[]⟩], .int .i64 0]) (by rw [results_cell_tmp rfl]; go_simp) rfl ?_
      exact ⟨by rw [hres.out]; rfl, bl_set (p := ⟨w.heap.size, 1, none⟩) (bl_set (p := ⟨w.heap.size, 0, none⟩) hbw5 (Nat.le_refl _) _) (Nat.le_refl _) _⟩
  have HKK := hide (show k ≠ 1 ∧ k ≠ 2 from ⟨fun h => hk1 (by rw [HZ.out, h]; rfl), fun h => hk2 (by rw [HZ.out, h]; rfl)⟩)
  have hz1' : (z != 1) = true := by simpa using hk1
  have hz2' : (z != 2) = true := by simpa using hk2
  clear hk1 hk2
  have hres := hide (chkM_none (n := n) (c := gv) (k := k) (t := t) (.inr (.inr (.inl HKK.out))))
  refine wp_region_K 18 (by kernel_rfl) (by kernel_rfl) (fun Q HQ => ?_)
  simp only [List.take_succ_cons, List.take_zero, List.map_cons, List.map_nil]
  repeat
    first
    | (refine wpS_skip (b := true) rfl (guard_mk rfl rfl) ?_)
    | (refine wpS_skip (b := false) rfl (guard_mk rfl rfl) ?_)
    | (first | apply wpS_c rfl | apply wpS_gc rfl (guard_mk rfl rfl)
       focus
         intro ev wx hC hx
         (try simp [Op.operands, Call.operands, opndS, Slot.holds] at hx)
         go_simp
         try (first | exact rfl | exact ⟨Below.refl _ _, rfl⟩)
         done)
    dsimp only [setS, List.set]
  refine wpS_nil (HQ _ fun w5 hC5 => ?_)
  simp only [closeS, List.drop_succ_cons, List.drop_zero, List.drop_nil]
  clear HQ f0 f1
  have hb45 := hC5.below
  have hbw5 : Below w.heap.size w w5 := hbw4.trans (hb45.mono hbw4.size)
  have hr5 : w5.heap[w.heap.size]? = some (.cells #[.int .i64 0, .string ⟨#[]⟩] 90 (0, 0)) := (hb45.block _ (Array.getElem?_eq_some_iff.1 HR4.out).1).trans HR4.out
  have e0 : w5.cell? ⟨w.heap.size, 0, none⟩ = some (.int .i64 0) := cell_of_row w5 _ 0 _ _ _ hr5
  have e1 : w5.cell? ⟨w.heap.size, 1, none⟩ = some (.string ⟨#[]⟩) := cell_of_row w5 _ 1 _ _ _ hr5
  have fz : ∀ j, w5.frozen? ⟨w.heap.size, j, none⟩ = false := fun j => by simp [World.frozen?, hr5]
  clear hr5 hC5
  go_wp2
  refine bodyPost_ret (v := .tuple #[.agg #[.int .i64 0, .string ⟨#[]⟩], .int .i64 0]) (by rw [results_cell_tmp rfl]; go_simp) rfl ?_
  exact ⟨by rw [hres.out]; rfl, bl_set (p := ⟨w.heap.size, 1, none⟩) (bl_set (p := ⟨w.heap.size, 0, none⟩) hbw5 (Nat.le_refl _) _) (Nat.le_refl _) _⟩
end Go.Proofs.Ytjpmfiicbokdcaa
namespace Go.Proofs.Ytjpmfiicbokdcaa
open Go.RowKit Go.Shelf
set_option linter.unusedVariables false
set_option linter.unusedSimpArgs false
attribute [local go_sem] Oper.semAt_some
/-- The records with the places where they end. -/
def wE : Nat → List Rec → List (Nat × Rec)
  | _, [] => []
  | e, r :: l => (e + (9 + r.2.length), r) :: wE (e + (9 + r.2.length)) l
theorem wE_snoc (r : Rec) : ∀ (l : List Rec) (e : Nat), wE e (l ++ [r]) = wE e l ++ [(e + (encL l).length + (9 + r.2.length), r)]
  | [], e => by simp [wE, encL]
  | q :: l, e => by
    show _ :: wE _ (l ++ [r]) = _
    rw [wE_snoc r l]
    simp only [wE, List.cons_append, encL_cons, List.length_append, encR_length]
    congr 5
    omega
theorem wE_length : ∀ (l : List Rec) (e : Nat), (wE e l).length = l.length
  | [], _ => rfl
  | q :: l, e => by show (wE _ l).length + 1 = _; rw [wE_length l]; rfl
theorem wE_snd : ∀ (l : List Rec) (e : Nat), (wE e l).map (·.2) = l
  | [], _ => rfl
  | q :: l, e => by show q :: (wE _ l).map _ = _; rw [wE_snd l]
def encX (x : Nat × Rec) : Array Value := #[.int .i64 (x.1 : Int), recV x.2]
/-- What a round must keep: what lay below, and the box of the file's text. -/
def KpJ (n₀ Bn : Nat) (W W' : World) : Prop := Below n₀ W W' ∧ ∀ v, W.cell? ⟨Bn, 0, none⟩ = some v → W'.cell? ⟨Bn, 0, none⟩ = some v
theorem kpJ_t {n₀ Bn : Nat} {A B C : World} (h : KpJ n₀ Bn A B) (k : KpJ n₀ Bn B C) : KpJ n₀ Bn A C := ⟨h.1.trans k.1, fun v hv => k.2 v (h.2 v hv)⟩
theorem kpJ_b {n₀ Bn : Nat} {w : World} (hn : n₀ ≤ w.heap.size) (W : World) (l : Nat) (o o' : Obj) (hl : w.heap.size ≤ l) (h : W.heap[l]? = some o) (h1 : o.isCells = false) (h2 : o.isWalk = false) : KpJ n₀ Bn W (W.putObj l o') := by
  refine ⟨belowK_b hn W l o o' hl h h1 h2, fun v hv => ?_⟩
  by_cases e : Bn = l
  · subst e
    unfold World.cell? at hv
    simp only [h] at hv
    cases o <;> simp_all [Obj.isCells]
  · have hg := grownBy_putObj' W l o'
    exact hg.cell hv (by simpa using e)
theorem below_grow {w w' : World} (hb : Below w.heap.size w w') : w.grownBy w' none := ⟨hb.os, hb.tape, hb.output, hb.size, fun k hk _ => hb.block k hk⟩
set_option maxRecDepth 100000 in
set_option maxHeartbeats 2000000 in
theorem iter_in (n : Nat) (hn : 1 ≤ n) (l Bn n₀ : Nat) (S : ByteArray) (s : List UInt8) (recs : List Rec) (rest : List UInt8) (hS : S = bstr s) (hs : s.length ≤ 100000) (hsc : IsScan s recs rest) (J Jx : List (Nat × Rec) → World → Prop) (W0 : World)
    (hJ : AbidesFrom W0.heap.size J)
    (hY : ∀ pre x W, J pre W → pre.length < recs.length → YieldAt Fence.wide (n - 1) Try.prog l (encX x) W fun e W' =>
      (e = .returned (.bool true) ∧ J (pre ++ [x]) W' ∧ KpJ n₀ Bn W W') ∨ (e = .returned (.bool false) ∧ Jx (pre ++ [x]) W'))
    (hBn : W0.cell? ⟨Bn, 0, none⟩ = some (.string S)) (h0 : J [] W0) :
    CallsIn Fence.wide n Try.prog 85 #[.func (.yield l) #[] #[], .pointer (some ⟨Bn, 0, none⟩)] W0 fun e W' => (∃ v, e = .returned v) ∧
      ((∃ ys, ys = wE 0 recs ∧ J ys W') ∨ (∃ pre, True ∧ Jx pre W')) := by
  have hm := str_size hS
  obtain ⟨m, hmm⟩ : ∃ m, m = s.length := ⟨_, rfl⟩
  rw [← hmm] at hm hs
  have HMM := hide hmm
  have HS := hide hS
  have HJ := hide hJ
  have HY := hide hY
  have HSC := hide hsc
  clear hmm hS hJ hY hsc
  refine callsIn_of_wp Try.func85 rfl trivial ?_ rfl
  simp only [Try.ntmps85, List.size_toArray, List.length_cons, List.length_nil, Nat.reduceAdd, Nat.reduceSub, Array.replicate_succ, Array.replicate_zero, List.push_toArray, List.append_toArray, List.nil_append, List.cons_append]
  gi_wp2
  gi_loopw [3] (fun p wr => ∃ (dn td : List Rec) (a : Nat), p = .int .i64 (a : Int) ∧ Hid (recs = dn ++ td) ∧ Hid (a = (encL dn).length) ∧ Hid (J (wE 0 dn) wr) ∧ wr.cell? ⟨Bn, 0, none⟩ = some (.string S) ∧ a ≤ m)
    (fun p _ => m - (intOf p).toNat)
  case atStart => exact ⟨[], recs, 0, rfl, hide rfl, hide rfl, hide h0, hBn, Nat.zero_le _⟩
  case round =>
    obtain ⟨dn, td, a, rfl, HD, HA, HJS, hc, ham⟩ := hrel
    have ham' : (a : Int) ≤ (m : Int) := by omega
    have hdrop : s.drop a = encL td ++ rest := by
      rw [HSC.out.eq, HD.out, encL_app, List.append_assoc, HA.out, List.drop_left]
    obtain ⟨X, hX⟩ : ∃ X, X = S.extract a m := ⟨_, rfl⟩
    have hXs : X = bstr (encL td ++ rest) := by rw [hX, str_sub HS.out, List.take_of_length_le (by rw [HMM.out]; exact Nat.le_refl _), hdrop]
    have hX' := hX.symm
    have HXS := hide hXs
    have HDR := hide hdrop
    clear hX hXs hdrop
    rcases td with _ | ⟨⟨k, p⟩, td⟩
    · have hnx : nextM (encL [] ++ rest) = none := HSC.out.stop
      gi_wp2
      refine ⟨trivial, ?_⟩
      refine (callsIn_wide.2 (next_any X _ wr HXS.out (by rw [← HDR.out, List.length_drop, ← HMM.out]; omega))).mono ?_
      rintro e w3 ⟨rfl, hb3⟩
      rw [hnx]
      unfold nextV
      clear hnx
      gi_wp2
      refine ⟨fun _ h => (by cases h), ?_⟩
      gi_wp2
      refine bodyPost_ret (results_none rfl _ _ _) rfl ?_
      refine ⟨⟨_, rfl⟩, .inl ⟨wE 0 dn, by rw [HD.out, List.append_nil], ?_⟩⟩
      exact HJ.out _ _ _ none HJS.out (below_grow (bl_alloc hb3 _)) (fun r e => by cases e)
    · have hok : okR (k, p) := HSC.out.ok (k, p) (by rw [HD.out]; simp)
      have hnx : nextM (encL ((k, p) :: td) ++ rest) = some (k, p) := by rw [encL_cons, List.append_assoc]; exact nextM_enc hok _
      obtain ⟨SP, hSP⟩ : ∃ SP, SP = bstr p := ⟨_, rfl⟩
      obtain ⟨q, hq⟩ : ∃ q, q = 9 + p.length := ⟨_, rfl⟩
      obtain ⟨b, hb⟩ : ∃ b, b = a + q := ⟨_, rfl⟩
      have eb : (a : Int) + (q : Int) = (b : Int) := by omega
      have hqz : ((q : Int) == 0) = false := by rw [beq_eq_false_iff_ne]; omega
      have hbm : b ≤ m := by
        have h1 := congrArg List.length HDR.out
        rw [List.length_drop, encL_cons, List.length_append, List.length_append, encR_length, ← HMM.out] at h1
        have : (9 + (k, p).2.length) = q := hq.symm
        omega
      have hx : wE 0 (dn ++ [(k, p)]) = wE 0 dn ++ [(b, (k, p))] := by
        rw [wE_snoc, hb, HA.out, hq, Nat.zero_add]
      have hbl : b = (encL (dn ++ [(k, p)])).length := by rw [encL_snoc, List.length_append, encR_length, ← HA.out, hb, hq]
      have hlen : (wE 0 dn).length < recs.length := by rw [wE_length, HD.out]; simp
      have HSP := hide hSP
      have HQ := hide hq
      have HX := hide hx
      have HBL := hide hbl
      have HLN := hide hlen
      have hq9 : 9 ≤ q := by omega
      have hq100 : q ≤ 100000 := by omega
      have HBB := hide hb
      have hb100 : b ≤ 100000 := by omega
      clear hSP hq hx hbl hlen hb
      gi_wp2
      refine ⟨trivial, ?_⟩
      refine (callsIn_wide.2 (next_any X _ wr HXS.out (by rw [← HDR.out, List.length_drop, ← HMM.out]; omega))).mono ?_
      rintro e w3 ⟨rfl, hb3⟩
      rw [hnx]
      unfold nextV recV
      simp only []
      rw [← HSP.out, ← HQ.out]
      have hc3 : w3.cell? ⟨Bn, 0, none⟩ = some (.string S) := (hb3.cell (lt_heap hc)).trans hc
      obtain ⟨w4, hw4⟩ : ∃ w4, w4 = w3.alloc (.cells #[.int .i64 k, .string SP] 90) := ⟨_, rfl⟩
      have hb4 : Below wr.heap.size wr w4 := by rw [hw4]; exact bl_alloc hb3 _
      have hj4 : J (wE 0 dn) w4 := HJ.out _ _ _ none HJS.out (below_grow hb4) (fun r e => by cases e)
      have hc4 : w4.cell? ⟨Bn, 0, none⟩ = some (.string S) := (hb4.cell (lt_heap hc)).trans hc
      obtain ⟨fn, tmps, assign, body, hy, hR⟩ := HY.out (wE 0 dn) (b, (k, p)) w4 hj4 HLN.out
      unfold encX recV at hy
      simp only [] at hy
      rw [← HSP.out, hw4] at hy
      have HW4 := hide hw4
      have HR := hide hR
      clear hw4 hR hnx hb3 hb4 hj4
      gi_wp2
      rw [← HW4.out]
      refine HR.out.mono ?_
      rintro e W3 (⟨rfl, hJ3, hk3⟩ | ⟨rfl, hJx3⟩)
      · have hc5 : W3.cell? ⟨Bn, 0, none⟩ = some (.string S) := hk3.2 _ hc4
        have HJ3 := hide hJ3
        clear hJ3 hk3
        gi_wp2
        go_roundw
        case rel => exact ⟨dn ++ [(k, p)], td, b, rfl, hide (by rw [HD.out]; simp), HBL, hide (by rw [HX.out]; exact HJ3.out), hc5, hbm⟩
        case measure => simp [intOf]; omega
      · gi_wp2
        refine bodyPost_ret (results_none rfl _ _ _) rfl ?_
        exact ⟨⟨_, rfl⟩, .inr ⟨_, trivial, hJx3⟩⟩
/-- The iterator's contract. -/
theorem iter_stops (n : Nat) (hn : 1 ≤ n) (Bn n₀ : Nat) (S : ByteArray) (s : List UInt8) (recs : List Rec) (rest : List UInt8) (hS : S = bstr s) (hs : s.length ≤ 100000) (hsc : IsScan s recs rest) (w : World)
    (hBn : w.cell? ⟨Bn, 0, none⟩ = some (.string S)) :
    SeqStopsK Fence.wide n Try.prog 85 #[.pointer (some ⟨Bn, 0, none⟩)] encX (KpJ n₀ Bn) (fun ys => ys = wE 0 recs) (fun _ => True) recs.length w := fun l J Jx W hW hJ _ hY h0 =>
  iter_in n hn l Bn n₀ S s recs rest hS hs hsc J Jx W hJ hY ((hW.cell (p := ⟨Bn, 0, none⟩) (lt_heap hBn)).trans hBn) h0
set_option maxRecDepth 100000 in
theorem records_any (S : ByteArray) (w : World) :
    Calls Try.prog 61 #[.string S] w fun e w' => e = .returned (.func (.func 85) #[] #[.pointer (some ⟨w.heap.size, 0, none⟩)]) ∧ w' = w.alloc (.cells #[.string S] 9) := by
  go_enter Try.func61, Try.ntmps61
  go_wp2
  go_ret
  exact ⟨rfl, rfl⟩
end Go.Proofs.Ytjpmfiicbokdcaa
namespace Go.Proofs.Ytjpmfiicbokdcaa
open Go.RowKit Go.Shelf
set_option linter.unusedVariables false
set_option linter.unusedSimpArgs false
attribute [local go_sem] Oper.semAt_some
theorem info_rec : (Try.prog.info? 90).map (fun i => (i.zero, i.size, i.bytes)) = some (some (.agg #[.int .i64 0, .string ⟨#[]⟩]), 2, 24) := by kernel_rfl
theorem exists_scan : ∀ (n : Nat) (s : List UInt8), s.length ≤ n → ∃ l rest, IsScan s l rest
  | 0, s, h => by
    obtain rfl : s = [] := List.eq_nil_of_length_eq_zero (by omega)
    exact ⟨[], [], rfl, by simp, rfl⟩
  | n + 1, s, h => by
    cases hn : nextM s with
    | none => exact ⟨[], s, rfl, by simp, hn⟩
    | some r =>
      obtain ⟨hok, t, rfl⟩ := nextM_some hn
      rw [List.length_append, encR_length] at h
      obtain ⟨l, rest, hs⟩ := exists_scan n t (by omega)
      exact ⟨r :: l, rest, by rw [encL_cons, List.append_assoc, ← hs.eq], fun q hq => by
        rcases List.mem_cons.1 hq with rfl | hq
        · exact hok
        · exact hs.ok q hq, hs.stop⟩
def lastE (pre : List (Nat × Rec)) : Nat := (pre.getLast?.map (·.1)).getD 0
theorem lastE_snoc (pre : List (Nat × Rec)) (x : Nat × Rec) : lastE (pre ++ [x]) = x.1 := by simp [lastE]
theorem lastE_all : ∀ (l : List Rec), lastE (wE 0 l) = (encL l).length := by
  intro l
  rcases List.eq_nil_or_concat l with rfl | ⟨l, r, rfl⟩
  · rfl
  · rw [List.concat_eq_append, wE_snoc, lastE_snoc, encL_snoc, List.length_append, encR_length, Nat.zero_add]
set_option maxHeartbeats 2000000 in
set_option maxRecDepth 100000 in
theorem scan_any (S : ByteArray) (s : List UInt8) (recs : List Rec) (rest : List UInt8) (w : World) (hS : S = bstr s) (hs : s.length ≤ 100000) (hsc : IsScan s recs rest) :
    Calls Try.prog 35 #[.string S] w fun e w' => ∃ v, e = .returned (.tuple #[v, .int .i64 (((encL recs).length : Nat) : Int), .int .i64 ((stateM rest : Nat) : Int)]) ∧ w'.ownsRow w.heap.size 90 2 v recs.length (recs.flatMap recC) ∧ Below w.heap.size w w' := by
  obtain ⟨i0, hi0, hz0, hz1, hz2⟩ := info_parts info_rec
  have HS := hide hS
  have HL := hide hs
  have HSC := hide hsc
  clear hS hs hsc
  refine (callsIn_wide (n := 5)).1 ?_
  refine callsIn_of_wp_marks Try.func35 rfl trivial ?_ rfl
  simp only [Try.ntmps35, List.size_toArray, List.length_cons, List.length_nil, Nat.reduceAdd, Nat.reduceSub, Array.replicate_succ, Array.replicate_zero, List.push_toArray, List.append_toArray, List.nil_append, List.cons_append]
  refine wpIn_wide.2 ?_
  go_wp2_with fail
  refine (records_any S _).mono ?_
  rintro e w' ⟨rfl, rfl⟩
  go_wp2_with fail
  have bO := ((Boxed.new w 60 (.slice none 0 0)).alloc (.cells #[.int .i64 0] 3)).alloc (.cells #[.string S] 9)
  have bA := (Boxed.new (w.alloc (.cells #[.slice none 0 0] 60)) 3 (.int .i64 0)).alloc (.cells #[.string S] 9)
  have bN := Boxed.new ((w.alloc (.cells #[.slice none 0 0] 60)).alloc (.cells #[.int .i64 0] 3)) 9 (.string S)
  simp only [World.size_alloc] at bA bN
  have hB0 : Below w.heap.size w (((w.alloc (.cells #[.slice none 0 0] 60)).alloc (.cells #[.int .i64 0] 3)).alloc (.cells #[.string S] 9)) := bl_alloc (bl_alloc (bl_alloc (bl_refl w) _) _) _
  have hsz : (((w.alloc (.cells #[.slice none 0 0] 60)).alloc (.cells #[.int .i64 0] 3)).alloc (.cells #[.string S] 9)).heap.size = w.heap.size + 3 := by simp
  obtain ⟨W0, hW0⟩ : ∃ W0, ((w.alloc (.cells #[.slice none 0 0] 60)).alloc (.cells #[.int .i64 0] 3)).alloc (.cells #[.string S] 9) = W0 := ⟨_, rfl⟩
  rw [hW0] at bO bA bN hB0 hsz ⊢
  clear hW0
  have hrl : recs.length ≤ 100000 := by
    have h1 := congrArg List.length HSC.out.eq
    have h2 : ∀ l : List Rec, l.length ≤ (encL l).length := fun l => by
      induction l with
      | nil => simp
      | cons q l ih => rw [encL_cons, List.length_append, encR_length, List.length_cons]; omega
    have h3 := h2 recs
    have h4 := HL.out
    rw [List.length_append] at h1
    omega
  have HRL := hide hrl
  clear hrl
  refine (wpIn_wide (n := 5)).1 ?_
  refine wpIn_rangeFunc_ownH rfl (by omega) (gf := 85) (lb := #[.pointer (some ⟨w.heap.size + 1 + 1, 0, none⟩)]) rfl trivial (enters_of Try.func85 (by kernel_rfl) rfl)
    (iter_stops (5 - 1) (by omega) (w.heap.size + 1 + 1) w.heap.size S s recs rest HS.out HL.out HSC.out W0 bN.cell) kpJ_t (kpJ_b (by omega)) (Below.refl _ _) (fun _ => rfl)
    (fun pre W => ((∃ v, Boxed W w.heap.size 60 v ∧ W.ownsRow w.heap.size 90 2 v pre.length ((pre.map (·.2)).flatMap recC) ∧ True) ∧ (Boxed W (w.heap.size + 1) 3 (.int .i64 ((lastE pre : Nat) : Int)) ∧ Boxed W (w.heap.size + 1 + 1) 9 (.string S))) ∧ Below w.heap.size w W)
    (fun _ _ _ => False)
    (OwnFrom.and (OwnFrom.and (Own.from (holdsRow_own w.heap.size w.heap.size 60 90 2 (fun pre : List (Nat × Rec) => pre.length) (fun pre : List (Nat × Rec) => (pre.map (·.2)).flatMap recC) (fun _ _ => True)) _) (OwnFrom.and (Own.from (boxed_own (w.heap.size + 1) 3 (fun pre : List (Nat × Rec) => .int .i64 ((lastE pre : Nat) : Int))) _) (Own.from (boxed_own (w.heap.size + 1 + 1) 9 (fun _ : List (Nat × Rec) => .string S)) _))) (ownFrom_below (Nat.le_refl _) (by omega)))
    (fun _ _ _ _ _ hs _ _ => hs)
    ⟨⟨⟨_, bO, World.ownsRow_nil _ _ _ _, trivial⟩, bA, bN⟩, hB0⟩
    (fun x a' W => ∃ Bx, w.heap.size + 2 < Bx ∧ W.heap[Bx]? = some (.cells #[.int .i64 x.2.1, .string (bstr x.2.2)] 90 (0, 0)) ∧ a' = { tmps := #[.string S, undef, .slice none 0 0, .int .i64 0, .int .i64 0, .pointer (some ⟨w.heap.size, 0, none⟩), .pointer (some ⟨w.heap.size + 1, 0, none⟩), .int .i64 (x.1 : Int), .pointer (some ⟨Bx, 0, none⟩), undef, .string S, .func (.func 85) #[] #[.pointer (some ⟨w.heap.size + 1 + 1, 0, none⟩)], .int .i64 (x.1 : Int), recV x.2, undef, undef, undef, undef, undef, undef, undef, undef, undef, undef, undef, undef, undef, undef, undef, undef, undef, undef, undef, undef, undef, undef, undef, undef, undef, undef, undef, undef, undef, undef, undef, undef, undef, undef, undef, undef, undef, undef], defers := [] })
    (fun x a' _ X Y row hs hg hr => by
      obtain ⟨Bx, h1, h2, h3⟩ := hs
      refine ⟨Bx, h1, (hg.block Bx (Array.getElem?_eq_some_iff.1 h2).1 (fun e => ?_)).trans h2, h3⟩
      obtain ⟨_, o, ho, hc⟩ := hr Bx e.symm
      rw [h2] at ho; cases ho; cases hc)
    ?assign ?body ?done ?stop
  case assign =>
    rintro l pre ⟨e, k, p⟩ W K ⟨⟨⟨v, hv, hrow, -⟩, bA1, bN1⟩, hB1⟩ hK
    have hlt := bN1.lt
    unfold encX recV at *
    gi_wp2
    refine hK _ _ ((KeepsOthers.alloc _ _).from _) ⟨(Below.refl _ W).alloc hB1.size _, fun u hu => ?_⟩ ⟨⟨⟨v, hv.alloc _, hrow.alloc _, trivial⟩, bA1.alloc _, bN1.alloc _⟩, hB1.alloc hB1.size _⟩ ⟨W.heap.size, by omega, World.alloc_heap_new W _, rfl⟩
    exact ((bl_alloc (bl_refl W) _).cell (lt_heap hu)).trans hu
  case body =>
    rintro l pre ⟨e, k, p⟩ a' W hl ⟨r, hr⟩ ⟨⟨⟨v, hv, hrow, -⟩, bA1, bN1⟩, hB1⟩ ⟨Bx, hBx, hcx, rfl⟩ hlt
    have hc := hv.cell
    have cx0 : W.cell? ⟨Bx, 0, none⟩ = some (.int .i64 k) := cell_of_row W _ 0 _ _ _ hcx
    have cx1 : W.cell? ⟨Bx, 1, none⟩ = some (.string (bstr p)) := cell_of_row W _ 1 _ _ _ hcx
    have hpl : pre.length ≤ 100000 := by have := HRL.out; omega
    have hcell : ∀ j u, (recC (k, p))[j]? = some u → (W.alloc (.cells #[.int .i64 k, .string (bstr p)] 90)).cell? ((⟨W.heap.size, 0, none⟩ : Addr).add j) = some u := fun j u hj => by
      rw [Addr.add_lit, Nat.zero_add, cell_of_row _ _ j _ _ (0, 0) (heap_alloc_new W _)]
      simpa [recC] using hj
    have hnb : some (w.heap.size + 1 + 1) ≠ v.ownBlock := bN1.not_row (by decide) hrow
    gi_wp2_with (gi_at_builtin; go_loud (refine wpListIn_append_own _ rfl _ _ 60 rfl w.heap.size 90 i0 (.agg #[.int .i64 0, .string ⟨#[]⟩]) 2 24 Try.underlying60 hi0 hz0 hz1 hz2 rfl (by decide) _ _ _ rfl (hrow.alloc _) ⟨W.heap.size, 0, none⟩ 1 1 (recC (k, p)) rfl rfl hcell (by simp [recC, Value.oneCell']) (by simp only [maxLen]; omega) (by omega) (by have := hB1.size; simp; omega) ?_); intro v' w1 hown' hgrow _; obtain ⟨g', cap', rfl⟩ := ownsRow_succ hown'; obtain ⟨hv1, hv2, hr2, hk2, hb2⟩ := hv.appended (by decide) hrow hB1.size (Nat.le_refl _) hown' hgrow; have hc1 := hv1.cell; have hf1 := hv1.frozen; have bA2 : Boxed (w1.setCell ⟨w.heap.size, 0, none⟩ (.slice (some ⟨g', 0, none⟩) (pre.length + 1) cap')) (w.heap.size + 1) 3 (.int .i64 ((lastE pre : Nat) : Int)) := ((bA1.alloc _).kept hgrow (bA1.not_row (by decide) hrow)).other (by omega) _; have bN2 : Boxed (w1.setCell ⟨w.heap.size, 0, none⟩ (.slice (some ⟨g', 0, none⟩) (pre.length + 1) cap')) (w.heap.size + 1 + 1) 9 (.string S) := ((bN1.alloc _).kept hgrow hnb).other (by omega) _; have hcA := bA2.cell; have hfA := bA2.frozen)
    have hle1 : w.heap.size ≤ w.heap.size + 1 := by omega
    have bN3 := bN2.other (B' := w.heap.size + 1) (by omega) (.int .i64 (e : Int))
    refine ⟨(hk2.trans (KeepsOthers.setCell _ _ _)).from _, ⟨hb2.setCell (p := ⟨w.heap.size + 1, 0, none⟩) hle1 _, fun u hu => ?_⟩, ⟨⟨_, hv2.other (by omega) _, ?_⟩, ?_, bN3⟩, hB1.trans (hb2.setCell (p := ⟨w.heap.size + 1, 0, none⟩) hle1 _)⟩
    · rw [bN1.cell] at hu
      rw [bN3.cell]; exact hu
    · have h3 := hr2.kept (grownBy_setCell' _ (w.heap.size + 1) (.int .i64 (e : Int))) (.inr (bA2.not_row (by decide) hr2).symm)
      simp only [List.length_append, List.map_append, List.flatMap_append, List.length_cons, List.length_nil, List.map_cons, List.map_nil, List.flatMap_cons, List.flatMap_nil, List.append_nil, Nat.zero_add]
      exact h3
    · rw [lastE_snoc]
      exact bA2.set _
  case done =>
    rintro D ys W hD rfl ⟨⟨⟨v, hv, hrow, -⟩, bA1, bN1⟩, hB1⟩ hK
    rw [wE_length, wE_snd] at hrow
    rw [lastE_all] at bA1
    have hcO := hv.cell
    have hcA := bA1.cell
    obtain ⟨a, ha⟩ : ∃ a, a = (encL recs).length := ⟨_, rfl⟩
    rw [← ha] at hcA
    obtain ⟨m, hm⟩ : ∃ m, m = s.length := ⟨_, rfl⟩
    have hSm : S.size = m := by rw [hm]; exact str_size HS.out
    have hlen := congrArg List.length HSC.out.eq
    rw [List.length_append, ← ha, ← hm] at hlen
    have ham : (a : Int) ≤ (m : Int) := by omega
    have hdrop : s.drop a = rest := by rw [HSC.out.eq, ha, List.drop_left]
    obtain ⟨X, hX⟩ : ∃ X, X = S.extract a m := ⟨_, rfl⟩
    have hXs : X = bstr rest := by rw [hX, str_sub HS.out, List.take_of_length_le (by rw [hm]; exact Nat.le_refl _), hdrop]
    have hX' := hX.symm
    have HXS := hide hXs
    have HAA := hide ha
    have HLEN := hide hlen
    have HROW := hide hrow
    have HMM := hide hm
    clear hX hXs hdrop ha hlen hrow hm
    have hwD : w.heap.size ≤ D := by omega
    by_cases hr0 : rest = []
    · have hx0 : X = bstr [] := by rw [HXS.out, hr0]
      subst hx0
      have hst : stateM rest = 0 := by unfold stateM; rw [if_pos hr0]
      have HST := hide hst
      clear hst hr0
      go_wp2_with fail
      refine wp_region_K 3 (by kernel_rfl) (by kernel_rfl) (fun Q HQ => ?_)
      simp only [List.take_succ_cons, List.take_zero, List.map_cons, List.map_nil]
      have f0 : ∀ wx, CB W.drew wx → wx.cell? ⟨w.heap.size, 0, none⟩ = some v := fun wx h => h.cell hcO
      have f1 : ∀ wx, CB W.drew wx → wx.cell? ⟨w.heap.size + 1, 0, none⟩ = some (.int .i64 (a : Int)) := fun wx h => h.cell hcA
      repeat
        first | apply wpS_c rfl | apply wpS_gc rfl (guard_mk rfl rfl)
        focus
          intro ev wx hC hx
          (try simp [Op.operands, Call.operands, opndS, Slot.holds] at hx)
          go_simp
          try (first | exact rfl | exact ⟨Below.refl _ _, rfl⟩)
          done
        dsimp only [setS, List.set]
      refine wpS_nil (HQ _ fun W4 hC4 => ?_)
      simp only [closeS, List.drop_succ_cons, List.drop_zero, List.drop_nil]
      clear HQ f0 f1
      have hb4 : Below W.heap.size W W4 := hC4.below
      have HROW4 := hide (HROW.out.kept (row := none) (below_grow hb4) (by cases v.ownBlock <;> simp))
      have HK4 := hide ((hb4.block D (Array.getElem?_eq_some_iff.1 hK).1).trans hK)
      have hB4 : Below w.heap.size w W4 := hB1.trans (hb4.mono hB1.size)
      go_wp2
      refine ⟨by simp, .inl ⟨_, _, rfl, run_takeDeferred HK4.out, ?_⟩⟩
      exact ⟨_, results_tmp3 rfl _ _ _, v, by rw [HAA.out, HST.out]; rfl, ownsRow_putObj HROW4.out _ HK4.out rfl, hB4.trans (belowK_b (w := w) (Nat.le_refl _) W4 D _ _ (by omega) HK4.out rfl rfl)⟩
    obtain ⟨n, hn⟩ : ∃ n, n = rest.length := ⟨_, rfl⟩
    have hXn : X.size = n := by rw [hn]; exact str_size HXS.out
    have hxl : X.toList = rest := by rw [HXS.out, bstr_toList]
    have hne : (X.toList == []) = false := by rw [hxl]; simpa using hr0
    have hn1 : 1 ≤ n := by
      rcases Nat.eq_zero_or_pos n with h | h
      · exact absurd (List.eq_nil_of_length_eq_zero (by rw [← hn]; exact h)) hr0
      · exact h
    have HN := hide hn
    have HR0 := hide hr0
    clear hxl hn hr0
    by_cases h9 : (n : Int) < 9
    · have hst : stateM rest = 1 := by unfold stateM; rw [if_neg HR0.out, if_pos (.inl (by have := HN.out; omega))]
      have HST := hide hst
      clear hst
      go_wp2_with fail
      refine wp_region_K 3 (by kernel_rfl) (by kernel_rfl) (fun Q HQ => ?_)
      simp only [List.take_succ_cons, List.take_zero, List.map_cons, List.map_nil]
      have f0 : ∀ wx, CB W.drew wx → wx.cell? ⟨w.heap.size, 0, none⟩ = some v := fun wx h => h.cell hcO
      have f1 : ∀ wx, CB W.drew wx → wx.cell? ⟨w.heap.size + 1, 0, none⟩ = some (.int .i64 (a : Int)) := fun wx h => h.cell hcA
      repeat
        first | apply wpS_c rfl | apply wpS_gc rfl (guard_mk rfl rfl)
        focus
          intro ev wx hC hx
          (try simp [Op.operands, Call.operands, opndS, Slot.holds] at hx)
          go_simp
          try (first | exact rfl | exact ⟨Below.refl _ _, rfl⟩)
          done
        dsimp only [setS, List.set]
      refine wpS_nil (HQ _ fun W4 hC4 => ?_)
      simp only [closeS, List.drop_succ_cons, List.drop_zero, List.drop_nil]
      clear HQ f0 f1
      have hb4 : Below W.heap.size W W4 := hC4.below
      have HROW4 := hide (HROW.out.kept (row := none) (below_grow hb4) (by cases v.ownBlock <;> simp))
      have HK4 := hide ((hb4.block D (Array.getElem?_eq_some_iff.1 hK).1).trans hK)
      have hB4 : Below w.heap.size w W4 := hB1.trans (hb4.mono hB1.size)
      go_wp2
      refine ⟨by simp, .inl ⟨_, _, rfl, run_takeDeferred HK4.out, ?_⟩⟩
      exact ⟨_, results_tmp3 rfl _ _ _, v, by rw [HAA.out, HST.out]; rfl, ownsRow_putObj HROW4.out _ HK4.out rfl, hB4.trans (belowK_b (w := w) (Nat.le_refl _) W4 D _ _ (by omega) HK4.out rfl rfl)⟩
    obtain ⟨b0, b1, b2, b3, b4, b5, b6, b7, b8, t, hrt⟩ := nine (l := rest) (by have := HN.out; omega)
    have hg0 : rest[0]? = some b0 := by rw [hrt]; rfl
    have hg1 : rest[1]? = some b1 := by rw [hrt]; rfl
    have hg2 : rest[2]? = some b2 := by rw [hrt]; rfl
    have hg3 : rest[3]? = some b3 := by rw [hrt]; rfl
    have hbe : be4 (rest.getD 0 0) (rest.getD 1 0) (rest.getD 2 0) (rest.getD 3 0) = be4 b0 b1 b2 b3 := by simp only [List.getD, hg0, hg1, hg2, hg3, Option.getD_some]
    have hnl := be4_lt b0 b1 b2 b3
    obtain ⟨z, hz⟩ : ∃ z, z = be4 b0 b1 b2 b3 := ⟨_, rfl⟩
    obtain ⟨q, hq⟩ : ∃ q, q = 9 + z := ⟨_, rfl⟩
    have eq1 : (9 : Int) + (z : Int) = (q : Int) := by omega
    rw [← hz] at hbe hnl
    have hz' := hz.symm
    have HZ := hide hz
    have HQ := hide hq
    have HBE := hide hbe
    have hql : q < 4294967305 := by omega
    clear hz' hz hq hbe hrt hnl
    go_wp2_with fail
    refine (get_any X rest b0 b1 b2 b3 W HXS.out hg0 hg1 hg2 hg3).mono ?_
    rintro e W3 ⟨rfl, hb3⟩
    rw [← HZ.out]
    have HROW3 := hide (HROW.out.kept (row := none) (below_grow hb3) (by cases v.ownBlock <;> simp))
    have HK3 := hide ((hb3.block D (Array.getElem?_eq_some_iff.1 hK).1).trans hK)
    have hB3 : Below w.heap.size w W3 := hB1.trans (hb3.mono hB1.size)
    have hcO3 : W3.cell? ⟨w.heap.size, 0, none⟩ = some v := (hb3.cell (lt_heap hcO)).trans hcO
    have hcA3 : W3.cell? ⟨w.heap.size + 1, 0, none⟩ = some (.int .i64 (a : Int)) := (hb3.cell (lt_heap hcA)).trans hcA
    clear hcO hcA hK hb3 hg0 hg1 hg2 hg3 bA1 hv bN1
    by_cases hnq : (n : Int) < (q : Int)
    · have hst : stateM rest = 1 := by unfold stateM; rw [if_neg HR0.out, HBE.out, if_pos (.inr (.inl (by have := HN.out; have := HQ.out; omega)))]
      have HST := hide hst
      clear hst
      go_wp2_with fail
      refine wp_region_K 3 (by kernel_rfl) (by kernel_rfl) (fun Q HQ => ?_)
      simp only [List.take_succ_cons, List.take_zero, List.map_cons, List.map_nil]
      have f0 : ∀ wx, CB W3.drew wx → wx.cell? ⟨w.heap.size, 0, none⟩ = some v := fun wx h => h.cell hcO3
      have f1 : ∀ wx, CB W3.drew wx → wx.cell? ⟨w.heap.size + 1, 0, none⟩ = some (.int .i64 (a : Int)) := fun wx h => h.cell hcA3
      repeat
        first | apply wpS_c rfl | apply wpS_gc rfl (guard_mk rfl rfl)
        focus
          intro ev wx hC hx
          (try simp [Op.operands, Call.operands, opndS, Slot.holds] at hx)
          go_simp
          try (first | exact rfl | exact ⟨Below.refl _ _, rfl⟩)
          done
        dsimp only [setS, List.set]
      refine wpS_nil (HQ _ fun W4 hC4 => ?_)
      simp only [closeS, List.drop_succ_cons, List.drop_zero, List.drop_nil]
      clear HQ f0 f1
      have hb4 : Below W3.heap.size W3 W4 := hC4.below
      have HROW4 := hide (HROW3.out.kept (row := none) (below_grow hb4) (by cases v.ownBlock <;> simp))
      have HK4 := hide ((hb4.block D (Array.getElem?_eq_some_iff.1 HK3.out).1).trans HK3.out)
      have hB4 : Below w.heap.size w W4 := hB3.trans (hb4.mono hB3.size)
      go_wp2
      refine ⟨by simp, .inl ⟨_, _, rfl, run_takeDeferred HK4.out, ?_⟩⟩
      exact ⟨_, results_tmp3 rfl _ _ _, v, by rw [HAA.out, HST.out]; rfl, ownsRow_putObj HROW4.out _ HK4.out rfl, hB4.trans (belowK_b (w := w) (Nat.le_refl _) W4 D _ _ (by omega) HK4.out rfl rfl)⟩
    obtain ⟨c, hc, hXc⟩ := str_at HXS.out (i := n - 1) (by have := HN.out; omega)
    have hlast : rest.getLast? = some c := by rw [List.getLast?_eq_getElem?, ← HN.out]; exact hc
    have hq2 : ¬ n < q := by omega
    have hn100 : n ≤ 100000 := by have := HN.out; have := HL.out; have := HLEN.out; have := HMM.out; omega
    obtain ⟨n1, rfl⟩ : ∃ n1, n = n1 + 1 := ⟨n - 1, by omega⟩
    rw [Nat.add_sub_cancel] at hXc
    have hq3 : ¬ (n1 : Int) + 1 < (q : Int) := by omega
    have h93 : ¬ (n1 : Int) + 1 < 9 := by omega
    have hn1b : n1 ≤ 100000 := by omega
    have HNA := hide (And.intro hn100 (And.intro hq2 (And.intro h9 hnq)))
    clear hn100 hq2 h9 hnq hn1
    have HLA := hide hlast
    clear hc hlast
    by_cases hc0 : c = 0
    · subst hc0
      have hst : stateM rest = 1 := by unfold stateM; rw [if_neg HR0.out, if_pos (.inr (.inr HLA.out))]
      have HST := hide hst
      clear hst
      go_wp2_with fail
      refine wp_region_K 3 (by kernel_rfl) (by kernel_rfl) (fun Q HQ => ?_)
      simp only [List.take_succ_cons, List.take_zero, List.map_cons, List.map_nil]
      have f0 : ∀ wx, CB W3.drew wx → wx.cell? ⟨w.heap.size, 0, none⟩ = some v := fun wx h => h.cell hcO3
      have f1 : ∀ wx, CB W3.drew wx → wx.cell? ⟨w.heap.size + 1, 0, none⟩ = some (.int .i64 (a : Int)) := fun wx h => h.cell hcA3
      repeat
        first | apply wpS_c rfl | apply wpS_gc rfl (guard_mk rfl rfl)
        focus
          intro ev wx hC hx
          (try simp [Op.operands, Call.operands, opndS, Slot.holds] at hx)
          go_simp
          try (first | exact rfl | exact ⟨Below.refl _ _, rfl⟩)
          done
        dsimp only [setS, List.set]
      refine wpS_nil (HQ _ fun W4 hC4 => ?_)
      simp only [closeS, List.drop_succ_cons, List.drop_zero, List.drop_nil]
      clear HQ f0 f1
      have hb4 : Below W3.heap.size W3 W4 := hC4.below
      have HROW4 := hide (HROW3.out.kept (row := none) (below_grow hb4) (by cases v.ownBlock <;> simp))
      have HK4 := hide ((hb4.block D (Array.getElem?_eq_some_iff.1 HK3.out).1).trans HK3.out)
      have hB4 : Below w.heap.size w W4 := hB3.trans (hb4.mono hB3.size)
      go_wp2
      refine ⟨by simp, .inl ⟨_, _, rfl, run_takeDeferred HK4.out, ?_⟩⟩
      exact ⟨_, results_tmp3 rfl _ _ _, v, by rw [HAA.out, HST.out]; rfl, ownsRow_putObj HROW4.out _ HK4.out rfl, hB4.trans (belowK_b (w := w) (Nat.le_refl _) W4 D _ _ (by omega) HK4.out rfl rfl)⟩
    have hcz : ((c.toNat : Int) == 0) = false := by rw [beq_eq_false_iff_ne]; intro h; exact hc0 (UInt8.toNat_inj.1 (by show c.toNat = 0; omega))
    have hst : stateM rest = 2 := by
      unfold stateM
      rw [if_neg HR0.out, HBE.out, if_neg]
      rintro (h | h | h)
      · have := HN.out; omega
      · have := HN.out; have := HQ.out; omega
      · rw [HLA.out] at h; injection h with h; exact hc0 h
    have HST := hide hst
    clear hst hc0
    go_wp2_with fail
    refine wp_region_K 3 (by kernel_rfl) (by kernel_rfl) (fun Q HQ => ?_)
    simp only [List.take_succ_cons, List.take_zero, List.map_cons, List.map_nil]
    have f0 : ∀ wx, CB W3.drew wx → wx.cell? ⟨w.heap.size, 0, none⟩ = some v := fun wx h => h.cell hcO3
    have f1 : ∀ wx, CB W3.drew wx → wx.cell? ⟨w.heap.size + 1, 0, none⟩ = some (.int .i64 (a : Int)) := fun wx h => h.cell hcA3
    repeat
      first | apply wpS_c rfl | apply wpS_gc rfl (guard_mk rfl rfl)
      focus
        intro ev wx hC hx
        (try simp [Op.operands, Call.operands, opndS, Slot.holds] at hx)
        go_simp
        try (first | exact rfl | exact ⟨Below.refl _ _, rfl⟩)
        done
      dsimp only [setS, List.set]
    refine wpS_nil (HQ _ fun W4 hC4 => ?_)
    simp only [closeS, List.drop_succ_cons, List.drop_zero, List.drop_nil]
    clear HQ f0 f1
    have hb4 : Below W3.heap.size W3 W4 := hC4.below
    have HROW4 := hide (HROW3.out.kept (row := none) (below_grow hb4) (by cases v.ownBlock <;> simp))
    have HK4 := hide ((hb4.block D (Array.getElem?_eq_some_iff.1 HK3.out).1).trans HK3.out)
    have hB4 : Below w.heap.size w W4 := hB3.trans (hb4.mono hB3.size)
    go_wp2
    refine ⟨by simp, .inl ⟨_, _, rfl, run_takeDeferred HK4.out, ?_⟩⟩
    exact ⟨_, results_tmp3 rfl _ _ _, v, by rw [HAA.out, HST.out]; rfl, ownsRow_putObj HROW4.out _ HK4.out rfl, hB4.trans (belowK_b (w := w) (Nat.le_refl _) W4 D _ _ (by omega) HK4.out rfl rfl)⟩
  case stop =>
    rintro D c pre W _ _ h _
    exact h.elim
end Go.Proofs.Ytjpmfiicbokdcaa
