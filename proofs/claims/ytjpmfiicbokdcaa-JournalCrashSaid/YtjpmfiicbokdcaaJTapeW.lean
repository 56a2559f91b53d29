/- The tape of numbers of which data are made. -/
import Derived.Test.YtjpmfiicbokdcaaProg
import Derived.Test.YtjpmfiicbokdcaaDB
import Derived.Test.YtjpmfiicbokdcaaRegE
import Derived.Maps.RangeWalk
namespace Go.Proofs.Ytjpmfiicbokdcaa
open Go.RowKit
set_option linter.unusedVariables false
set_option linter.unusedSimpArgs false
/-- x modulo n, from 0 to n - 1. -/
def modZ (x n : Int) : Int := if n < 1 then 0 else if x.tmod n < 0 then x.tmod n + n else x.tmod n
theorem modZ_range (x n : Int) (h : 1 ≤ n) : 0 ≤ modZ x n ∧ modZ x n < n := by
  unfold modZ
  rw [if_neg (by omega)]
  have h1 := Int.tmod_lt_of_pos x (show 0 < n by omega)
  have h2 := Int.lt_tmod_of_pos x (show 0 < n by omega)
  by_cases hn : x.tmod n < 0
  · rw [if_pos hn]; omega
  · rw [if_neg hn]; omega
set_option maxRecDepth 100000 in
theorem mod_any (x n : Int) (w : World) (hn : n ≤ 1000000000) :
    Calls Try.prog 15 #[.int .i64 x, .int .i64 n] w fun e w' => e = .returned (.int .i64 (modZ x n)) ∧ w = w' := by
  by_cases h1 : n < 1
  · have hr : modZ x n = 0 := by unfold modZ; rw [if_pos h1]
    rw [hr]
    clear hr
    go_enter Try.func15, Try.ntmps15
    go_wp2
    go_ret
    exact ⟨rfl, rfl⟩
  have hp : 0 < n := by omega
  have hne : ¬ n = 0 := by omega
  have hne' : (n == 0) = false := by rw [beq_eq_false_iff_ne]; omega
  have b1 := Int.tmod_lt_of_pos x hp
  have b2 := Int.lt_tmod_of_pos x hp
  obtain ⟨r, hr⟩ : ∃ r, r = x.tmod n := ⟨_, rfl⟩
  have hr' := hr.symm
  rw [← hr] at b1 b2
  by_cases hneg : r < 0
  · have hv : modZ x n = r + n := by unfold modZ; rw [if_neg h1, ← hr, if_pos hneg]
    rw [hv]
    clear hv hr
    go_enter Try.func15, Try.ntmps15
    go_wp2
    go_ret
    exact ⟨rfl, rfl⟩
  · have hv : modZ x n = r := by unfold modZ; rw [if_neg h1, ← hr, if_neg hneg]
    rw [hv]
    clear hv hr
    go_enter Try.func15, Try.ntmps15
    go_wp2
    go_ret
    exact ⟨rfl, rfl⟩
theorem below_grow0 {w w' : World} (hb : Below w.heap.size w w') : w.grownBy w' none := ⟨hb.os, hb.tape, hb.output, hb.size, fun k hk _ => hb.block k hk⟩
theorem gb_row {a b c : World} {r : Option Nat} (h : a.grownBy b none) (k : b.grownBy c r) : a.grownBy c r := (World.grownBy.but h r).trans k
theorem gb_below {a b c : World} {r : Option Nat} (h : a.grownBy b r) (k : Below b.heap.size b c) : a.grownBy c r := h.trans (World.grownBy.but (below_grow0 k) r)
theorem grownBy_setCell_at (w : World) (p : Addr) (v : Value) : w.grownBy (w.setCell p v) (some p.block) := ⟨rfl, rfl, rfl, by simp, fun k hk hne => by simp [World.setCell, Array.getElem?_modify]; intro h; exact absurd (by rw [h]) hne⟩
/-- A tape in block g. -/
def IsTape (w : World) (g : Nat) : Prop := ∃ (a : Option Addr) (zs : List Int) (c n at_ : Nat), n = zs.length ∧ at_ ≤ n ∧ n ≤ 1000 ∧ w.heap[g]? = some (.cells #[.slice a n c, .int .i64 (at_ : Int)] 67 (0, 0)) ∧ Rd w a (zs.map (Value.int .i64)) ∧ (zs = [] ∨ ∀ b, a = some b → b.block < g)
theorem IsTape.lt {w : World} {g : Nat} (h : IsTape w g) : g < w.heap.size := by
  obtain ⟨_, _, _, _, _, _, _, _, h, _⟩ := h
  exact (Array.getElem?_eq_some_iff.1 h).1
theorem IsTape.below {w w' : World} {g : Nat} (h : IsTape w g) (hb : Below w.heap.size w w') : IsTape w' g := by
  have hl := h.lt
  obtain ⟨a, zs, c, n, at_, h1, h2, h2', h3, h4, h5⟩ := h
  exact ⟨a, zs, c, n, at_, h1, h2, h2', (hb.block g hl).trans h3, h4.below hb, h5⟩
theorem IsTape.grown {w w' : World} {g : Nat} {r : Option Nat} (h : IsTape w g) (hg : w.grownBy w' r) (hr : ∀ j, r = some j → g < j) : IsTape w' g := by
  have hl := h.lt
  obtain ⟨a, zs, c, n, at_, h1, h2, h2', h3, h4, h5⟩ := h
  refine ⟨a, zs, c, n, at_, h1, h2, h2', (hg.block g hl (fun e => by have := hr g e.symm; omega)).trans h3, ?_, h5⟩
  rcases h5 with rfl | h5
  · exact .inl rfl
  rcases h4 with h4 | ⟨b, o, rfl, hb, hc⟩
  · exact .inl h4
  · have hbg := h5 _ rfl
    refine .inr ⟨b, o, rfl, Nat.lt_of_lt_of_le hb hg.size, fun k v hv => ?_⟩
    refine (World.cell?_of_block (hg.block b hb (fun e => ?_))).trans (hc k v hv)
    have h1 := hr b e.symm
    have h2 : b < g := hbg
    omega
set_option maxRecDepth 100000 in
theorem deal_any (g : Nat) (n : Int) (w : World) (ht : IsTape w g) (hn : 1 ≤ n) (hn2 : n ≤ 1000000) :
    Calls Try.prog 27 #[.pointer (some ⟨g, 0, none⟩), .int .i64 n] w fun e w' => ∃ r : Int, e = .returned (.int .i64 r) ∧ 0 ≤ r ∧ r < n ∧ IsTape w' g ∧ w.grownBy w' (some g) := by
  have HT := hide ht
  obtain ⟨a, zs, c, m, at_, hm, hle, hm2, hq, hr, hab⟩ := ht
  have c0 : w.cell? ⟨g, 0, none⟩ = some (.slice a m c) := cell_of_row w g 0 _ _ _ hq
  have c1 : w.cell? ⟨g, 1, none⟩ = some (.int .i64 (at_ : Int)) := cell_of_row w g 1 _ _ _ hq
  have hgl := HT.out.lt
  have HQ := hide hq
  have HR := hide hr
  have HM := hide hm
  have HAB := hide hab
  clear hq hr hm hab
  go_enter Try.func27, Try.ntmps27
  go_wp2_with fail
  refine wp_region_K 9 (by kernel_rfl) (by kernel_rfl) (fun Q HQ => ?_)
  simp only [List.take_succ_cons, List.take_zero, List.map_cons, List.map_nil]
  have f0 : ∀ wx, CB w.drew wx → wx.cell? ⟨g, 0, none⟩ = some (.slice a m c) := fun wx h => h.cell c0
  have f1 : ∀ wx, CB w.drew wx → wx.cell? ⟨g, 1, none⟩ = some (.int .i64 (at_ : Int)) := fun wx h => h.cell c1
  repeat
    first | apply wpS_c rfl | apply wpS_gc rfl (guard_mk rfl rfl)
    focus
      intro ev wx hC hx
      (try simp [Op.operands, Call.operands, opndS, Slot.holds] at hx)
      go_simp
      try (first | exact rfl | exact ⟨Below.refl _ _, rfl⟩)
      done
    dsimp only [setS, List.set]
  refine wpS_nil (HQ _ fun w3 hC3 => ?_)
  simp only [closeS, List.drop_succ_cons, List.drop_zero, List.drop_nil]
  clear HQ f0 f1
  have hb3 : Below w.heap.size w w3 := hC3.below
  have d0 : w3.cell? ⟨g, 0, none⟩ = some (.slice a m c) := (hb3.cell hgl).trans c0
  have d1 : w3.cell? ⟨g, 1, none⟩ = some (.int .i64 (at_ : Int)) := (hb3.cell hgl).trans c1
  have HT3 := hide (HT.out.below hb3)
  clear hC3 c0 c1
  by_cases hlt : at_ < m
  · have h1 : ¬ (m : Int) ≤ (at_ : Int) := by omega
    have h1' : (at_ : Int) < (m : Int) := by omega
    have hq3 : w3.heap[g]? = some (.cells #[.slice a m c, .int .i64 (at_ : Int)] 67 (0, 0)) := (hb3.block g hgl).trans HQ.out
    have fz : ∀ j, w3.frozen? ⟨g, j, none⟩ = false := fun j => by simp [World.frozen?, hq3]
    obtain ⟨w4, hw4⟩ : ∃ w4, w4 = w3.setCell ⟨g, 1, none⟩ (.int .i64 ((at_ : Int) + 1)) := ⟨_, rfl⟩
    have hg4 : w3.grownBy w4 (some g) := by rw [hw4]; exact grownBy_setCell_at w3 ⟨g, 1, none⟩ _
    have e0 : w4.cell? ⟨g, 0, none⟩ = some (.slice a m c) := by rw [hw4]; go_simp
    have e1 : w4.cell? ⟨g, 1, none⟩ = some (.int .i64 ((at_ : Int) + 1)) := by rw [hw4]; go_simp
    have hq4 : w4.heap[g]? = some (.cells #[.slice a m c, .int .i64 ((at_ + 1 : Nat) : Int)] 67 (0, 0)) := by
      rw [hw4]
      simp [World.setCell, Array.getElem?_modify, hq3]
    have hrd4 : Rd w4 a (zs.map (Value.int .i64)) := by
      rcases (HR.out.below hb3) with h4 | ⟨b, o, rfl, hb, hc⟩
      · exact .inl h4
      · have hbg : b < g := by
          rcases HAB.out with h | h
          · have := HM.out; rw [h] at this; simp at this; omega
          · exact h _ rfl
        refine .inr ⟨b, o, rfl, Nat.lt_of_lt_of_le hb hg4.size, fun k v hv => ?_⟩
        refine (World.cell?_of_block (hg4.block b hb (fun e => ?_))).trans (hc k v hv)
        injection e with e
        have h2 : b < g := hbg
        omega
    obtain ⟨b, o, rfl, hbl, hcell⟩ := hrd4.at_ (k := at_) (v := .int .i64 (zs.getD at_ 0)) (by have := HM.out; simp [List.getD, show at_ < zs.length by omega])
    have ht4 : IsTape w4 g := ⟨_, zs, c, m, at_ + 1, HM.out, by omega, hm2, hq4, hrd4, HAB.out⟩
    obtain ⟨z, hz⟩ : ∃ z, z = zs.getD at_ 0 := ⟨_, rfl⟩
    rw [← hz] at hcell
    have HT4 := hide ht4
    have HG4 := hide (gb_row (below_grow0 hb3) hg4)
    have hgl4 := ht4.lt
    clear ht4 hq4 hrd4 hq3 hz hg4
    go_wp2_with fail
    rw [← hw4]
    clear hw4 fz d0 d1
    refine wp_region_K 13 (by kernel_rfl) (by kernel_rfl) (fun Q HQ => ?_)
    simp only [List.take_succ_cons, List.take_zero, List.map_cons, List.map_nil]
    have f0 : ∀ wx, CB w4.drew wx → wx.cell? ⟨g, 0, none⟩ = some (.slice (some ⟨b, o, none⟩) m c) := fun wx h => h.cell e0
    have f1 : ∀ wx, CB w4.drew wx → wx.cell? ⟨g, 1, none⟩ = some (.int .i64 ((at_ : Int) + 1)) := fun wx h => h.cell e1
    have f2 : ∀ wx, CB w4.drew wx → wx.cell? ⟨b, o + at_, none⟩ = some (.int .i64 z) := fun wx h => h.cell hcell
    have ew : IntKind.i64.wrap (at_ : Int) = (at_ : Int) := by rw [IntKind.wrap_i64]; omega
    repeat
      first | apply wpS_c rfl | apply wpS_gc rfl (guard_mk rfl rfl)
      focus
        intro ev wx hC hx
        (try simp [Op.operands, Call.operands, opndS, Slot.holds] at hx)
        go_simp
        try (first | exact rfl | exact ⟨Below.refl _ _, rfl⟩ | (go_at_call 15; refine (mod_any z n _ (by omega)).mono ?_; rintro e w' ⟨rfl, rfl⟩; exact ⟨rfl, Below.refl _ _⟩))
        done
      dsimp only [setS, List.set]
    refine wpS_nil (HQ _ fun w5 hC5 => ?_)
    simp only [closeS, List.drop_succ_cons, List.drop_zero, List.drop_nil]
    clear HQ f0 f1 f2
    have hb5 : Below w4.heap.size w4 w5 := hC5.below
    have hmr := modZ_range z n hn
    go_wp2
    go_ret
    exact ⟨_, rfl, hmr.1, hmr.2, HT4.out.below hb5, gb_below HG4.out hb5⟩
  · have h1 : (m : Int) ≤ (at_ : Int) := by omega
    go_wp2
    go_ret
    exact ⟨0, rfl, Int.le_refl _, by omega, HT3.out, gb_row (below_grow0 hb3) (World.grownBy.refl _ _)⟩
/-- A slice of ints that came in: a list of numbers, read. -/
theorem IsRow.ints {w : World} {a : Option Addr} {len cap : Nat} {zs : List Int} (h : IsRow .i64 w a len cap zs) :
    ∃ l : List Int, l.length = len ∧ Rd w a (l.map (Value.int .i64)) ∧ len ≤ cap ∧ cap ≤ maxLen ∧ (a = none → cap = 0) ∧ ∀ x ∈ l, (Lit.int .i64 x).wf = true := by
  rcases h with ⟨rfl, rfl, rfl, rfl⟩ | ⟨x, rfl, hl, hm, hz, hc, hw⟩
  · exact ⟨[], rfl, .inl rfl, Nat.le_refl _, Nat.zero_le _, fun _ => rfl, fun _ h => by simp at h⟩
  · refine ⟨zs.take len, by simp; omega, ?_, hl, hm, (fun h => by cases h), fun y hy => hw y (List.mem_of_mem_take hy)⟩
    rcases Nat.eq_zero_or_pos len with h0 | h0
    · subst h0; exact .inl (by simp)
    · have hx0 := hc 0 (by omega)
      have hsp : x.spot = none := by simpa [Addr.add] using World.cell?_spot hx0
      obtain ⟨b, o, sp⟩ := x
      subst hsp
      refine .inr ⟨b, o, rfl, lt_heap (a := (⟨b, o, none⟩ : Addr).add 0) hx0, fun k v hv => ?_⟩
      rw [List.getElem?_map, Option.map_eq_some_iff] at hv
      obtain ⟨n, hn, rfl⟩ := hv
      have hk : k < zs.length := by
        have := (List.getElem?_eq_some_iff.1 hn).1
        simp at this; omega
      have h1 := hc k hk
      rw [Addr.add_lit] at h1
      rw [h1]
      have hnz : zs.getD k 0 = n := by
        rw [List.getElem?_take] at hn
        split at hn
        · simp [List.getD, hn]
        · cases hn
      rw [hnz]
theorem tape_new {w : World} {a : Option Addr} {n c : Nat} {zs : List Int} (hn : n = zs.length) (hm : n ≤ 1000) (hr : Rd w a (zs.map (Value.int .i64))) : IsTape (w.alloc (.cells #[.slice a n c, .int .i64 0] 67)) w.heap.size := by
  refine ⟨a, zs, c, n, 0, hn, Nat.zero_le _, hm, heap_alloc_new w _, hr.alloc _, ?_⟩
  rcases hr with h | ⟨b, o, rfl, hb, _⟩
  · left; simpa using h
  · right; intro b' h; injection h with h; subst h; exact hb
set_option maxRecDepth 100000 in
theorem tnew_any (a : Option Addr) (len cap : Nat) (l : List Int) (w : World) (hl : len = l.length) (hc : len ≤ cap) (hcm : cap ≤ maxLen) (hr : Rd w a (l.map (Value.int .i64))) :
    Calls Try.prog 14 #[.slice a len cap] w fun e w' => e = .returned (.pointer (some ⟨w.heap.size, 0, none⟩)) ∧ IsTape w' w.heap.size ∧ Below w.heap.size w w' := by
  have HL := hide hl
  have HR := hide hr
  unfold maxLen at hcm
  clear hl hr
  by_cases h : 120 < len
  · have h1 : (120 : Int) < (len : Int) := by omega
    have h2 : 120 ≤ cap := by omega
    have h3 : (120 : Int) ≤ (cap : Int) := by omega
    have ht := tape_new (w := w) (a := a) (n := 120) (c := cap) (zs := l.take 120) (by have := HL.out; simp; omega) (by omega) (by have := HR.out.take 120; rwa [← List.map_take] at this)
    have HT := hide ht
    clear ht
    go_enter Try.func14, Try.ntmps14
    go_wp2
    go_ret
    exact ⟨rfl, HT.out, bl_alloc (bl_refl w) _⟩
  · have h1 : ¬ (120 : Int) < (len : Int) := by omega
    have ht := tape_new (w := w) (a := a) (n := len) (c := cap) (zs := l) HL.out (by omega) HR.out
    have HT := hide ht
    clear ht
    go_enter Try.func14, Try.ntmps14
    go_wp2
    go_ret
    exact ⟨rfl, HT.out, bl_alloc (bl_refl w) _⟩
end Go.Proofs.Ytjpmfiicbokdcaa
