/- The walk of gallop, by sort.Search. -/
import Derived.Shelf.SlSorted.Search
import Derived.RegionTactic
import Derived.Test.YtjiijhbkbmnhbaaLAllW
namespace Go.Proofs.Ytjiijhbkbmnhbaa
open Go.Shelf in
def Try.search16_ren : Go.Shelf.Ren := ⟨fun | 16 => 40 | n => n, fun | 3 => 3 | 35 => 52 | 4 => 4 | 38 => 76 | n => n, fun | n => n⟩
open Go.Shelf in
theorem Try.search16 : Go.Proofs.SlLaysO.n16 Try.prog Try.search16_ren := {
  mixed := by kernel_rfl
  f16 := Try.func40.trans (congrArg some (by kernel_rfl))
  t3 := Try.underlying3
  a3 := Try.isAgg3
  z3 := Try.sizeOf3
  v3 := Try.zeroValue3
  t4 := Try.underlying4
  a4 := Try.isAgg4
  z4 := Try.sizeOf4
  v4 := Try.zeroValue4
  t35 := Try.underlying52
  a35 := Try.isAgg52
  z35 := Try.sizeOf52
  v35 := Try.zeroValue52
  t38 := Try.underlying76
  a38 := Try.isAgg76
  z38 := Try.sizeOf76
  v38 := Try.zeroValue76 }
open Go.RowKit Go.Shelf Go.Lib Go.Sort
set_option linter.unusedVariables false
set_option linter.unusedSimpArgs false
set_option maxHeartbeats 2000000 in
set_option maxRecDepth 100000 in
theorem galc_any (ba bf bx b o n c fr i : Nat) (x y : Int) (W : World) (hi : fr + i < n) (hn : n ≤ 100000)
    (ha : W.cell? ⟨ba, 0, none⟩ = some (.slice (some ⟨b, o, none⟩) n c)) (hf : W.cell? ⟨bf, 0, none⟩ = some (.int .i64 (fr : Int))) (hx : W.cell? ⟨bx, 0, none⟩ = some (.int .i64 x)) (hc : W.cell? ⟨b, o + (fr + i), none⟩ = some (.int .i64 y)) :
    Calls Try.prog 51 (#[.int .i64 (i : Int)] ++ #[.pointer (some ⟨ba, 0, none⟩), .pointer (some ⟨bf, 0, none⟩), .pointer (some ⟨bx, 0, none⟩)]) W fun e w' => e = .returned (.bool (decide (x ≤ y))) ∧ ∃ q, w' = W.drewN q := by
  obtain ⟨k, hk⟩ : ∃ k, k = fr + i := ⟨_, rfl⟩
  have ek : (fr : Int) + (i : Int) = (k : Int) := by omega
  have hkn : (k : Int) < (n : Int) := by omega
  have hkb : k ≤ 100000 := by omega
  rw [← hk] at hc
  clear hk hi
  go_enter Try.func51, Try.ntmps51
  go_wp2
  go_region
  all_goals go_wp2
  all_goals go_ret
  all_goals exact ⟨by first | rfl | simp, 1, rfl⟩
/-- What the search adds up to. -/
theorem below_parts {l : List Int} {x : Int} {fr to : Nat} (h1 : fr ≤ to) (h2 : to ≤ l.length) (hlow : ∀ j y, j < fr → l[j]? = some y → y < x) (hhigh : ∀ j y, to ≤ j → l[j]? = some y → x ≤ y) :
    below l x = fr + ((l.drop fr).take (to - fr)).countP (fun y => !decide (x ≤ y)) := by
  have e : l = l.take fr ++ ((l.drop fr).take (to - fr) ++ l.drop to) := by
    have h3 : l.drop to = (l.drop fr).drop (to - fr) := by rw [List.drop_drop]; congr 1; omega
    rw [h3, List.take_append_drop, List.take_append_drop]
  have c1 : (l.take fr).countP (fun y => !decide (x ≤ y)) = fr := by
    have h4 : (l.take fr).length = fr := by simp; omega
    rw [List.countP_eq_length.2, h4]
    intro y hy
    obtain ⟨j, hj⟩ := List.mem_iff_getElem?.1 hy
    have hjl : j < fr := by have := (List.getElem?_eq_some_iff.1 hj).1; omega
    rw [List.getElem?_take_of_lt hjl] at hj
    have := hlow j y hjl hj
    simp; omega
  have c3 : (l.drop to).countP (fun y => !decide (x ≤ y)) = 0 := by
    rw [List.countP_eq_zero]
    intro y hy
    obtain ⟨j, hj⟩ := List.mem_iff_getElem?.1 hy
    rw [List.getElem?_drop] at hj
    have := hhigh (to + j) y (by omega) hj
    simp; omega
  unfold below
  conv => lhs; rw [e]
  rw [List.countP_append, List.countP_append, c1, c3, Nat.add_zero]
theorem asc_get {l : List Int} (h : asc l) {i j : Nat} {x y : Int} (hij : i ≤ j) (hx : l[i]? = some x) (hy : l[j]? = some y) : x ≤ y := by
  rcases Nat.lt_or_ge i j with hlt | hge
  · obtain ⟨h1, rfl⟩ := List.getElem?_eq_some_iff.1 hx
    obtain ⟨h2, rfl⟩ := List.getElem?_eq_some_iff.1 hy
    exact Int.le_of_lt (List.pairwise_iff_getElem.1 h i j h1 h2 hlt)
  · obtain rfl : i = j := by omega
    rw [hx] at hy; injection hy with hy; omega
/-- The search that gallop does. -/
theorem gsearch_any (a : Option Addr) (n c fr dd g2 bs : Nat) (l : List Int) (x : Int) (w4 wx : World) (h : IsI w4 a n l) (hl : asc l) (hn : n ≤ 100000) (hfd : fr + dd ≤ n) (hbx : Below w4.heap.size w4 wx)
    (ca : w4.cell? ⟨bs, 0, none⟩ = some (.slice a n c)) (cx : w4.cell? ⟨bs + 1, 0, none⟩ = some (.int .i64 x)) (cf : w4.cell? ⟨g2, 0, none⟩ = some (.int .i64 (fr : Int))) :
    Calls Try.prog 40 #[.int .i64 (dd : Int), .func (.func 51) #[] #[.pointer (some ⟨bs, 0, none⟩), .pointer (some ⟨g2, 0, none⟩), .pointer (some ⟨bs + 1, 0, none⟩)]] wx
      fun e w' => e = .returned (.int .i64 ((((l.drop fr).take dd).countP (fun y => !decide (x ≤ y)) : Nat) : Int)) ∧ Below wx.heap.size wx w' := by
  have eg : ∀ args w, (callFunc 51 args).run Try.prog w = .ok (.enter 51 args) w := enters_of Try.func51 (by kernel_rfl) rfl
  have hlen : ((l.drop fr).take dd).length = dd := by have := h.1; simp; omega
  have hI := h.below hbx
  have ca' : wx.cell? ⟨bs, 0, none⟩ = some (.slice a n c) := (hbx.cell (lt_heap ca)).trans ca
  have cx' : wx.cell? ⟨bs + 1, 0, none⟩ = some (.int .i64 x) := (hbx.cell (lt_heap cx)).trans cx
  have cf' : wx.cell? ⟨g2, 0, none⟩ = some (.int .i64 (fr : Int)) := (hbx.cell (lt_heap cf)).trans cf
  have hget : ∀ i, i < dd → ∀ y, l[fr + i]? = some y → ((l.drop fr).take dd).toArray[i]! = y := fun i hi y hy => by
    have h1 : ((l.drop fr).take dd)[i]? = some y := by rw [List.getElem?_take_of_lt hi, List.getElem?_drop]; exact hy
    have h2 : ((l.drop fr).take dd).toArray[i]? = some y := by simpa using h1
    simp [h1]
  have hex : ∀ i, i < dd → ∃ y, l[fr + i]? = some y := fun i hi => ⟨_, List.getElem?_eq_getElem (by have := h.1; omega)⟩
  have hS := Any.sort_Search Try.search16 51 #[.pointer (some ⟨bs, 0, none⟩), .pointer (some ⟨g2, 0, none⟩), .pointer (some ⟨bs + 1, 0, none⟩)] dd (fun i => decide (x ≤ ((l.drop fr).take dd).toArray[i]!)) wx eg (by omega)
    (fun m os i hi => by
      obtain ⟨y, hy⟩ := hex i hi
      obtain ⟨b, o, y', hab, hbl, hy', hcy⟩ := hI.at_ (k := fr + i) (by omega)
      rw [hy] at hy'
      injection hy' with hy'
      subst hy'
      rw [hget i hi y hy]
      rw [hab] at ca'
      exact (galc_any bs g2 (bs + 1) b o n c fr i x y _ (by omega) hn (cell_grown (lt_heap ca') ca' m os) (cell_grown (lt_heap cf') cf' m os) (cell_grown (lt_heap cx') cx' m os) (cell_grown hbl hcy m os)).mono
        fun _ _ ⟨he, q, hq⟩ => ⟨he, q, #[], by rw [hq, grow_empty]⟩)
    (fun i j hij hj hp => by
      obtain ⟨y, hy⟩ := hex i (by omega)
      obtain ⟨z, hz⟩ := hex j hj
      rw [hget i (by omega) y hy] at hp
      rw [hget j hj z hz]
      have := asc_get hl (i := fr + i) (j := fr + j) (by omega) hy hz
      simp at hp ⊢; omega)
  have hcount : (List.range dd).countP (fun i => !decide (x ≤ ((l.drop fr).take dd).toArray[i]!)) = ((l.drop fr).take dd).countP (fun y => !decide (x ≤ y)) := by
    have := Lib.countP_range ((l.drop fr).take dd).toArray (fun y => !decide (x ≤ y))
    rw [List.size_toArray, hlen] at this
    exact this
  rw [hcount] at hS
  exact hS.mono fun e w' ⟨h1, q, os, h2⟩ => ⟨h1, by rw [h2]; exact below_grown_sl _ wx q os (Nat.le_refl _)⟩
set_option maxHeartbeats 2000000 in
set_option maxRecDepth 100000 in
theorem gallop_any (a : Option Addr) (n c : Nat) (l : List Int) (x : Int) (w : World) (h : IsI w a n l) (hl : asc l) (hn : n ≤ 100000) :
    Calls Try.prog 43 #[.slice a n c, .int .i64 x] w fun e w' => e = .returned (.int .i64 ((below l x : Nat) : Int)) ∧ Below w.heap.size w w' := by
  have HI := hide h
  have HN := hide h.1
  have HA := hide hl
  clear h hl
  go_enter Try.func43, Try.ntmps43
  go_wp2_with fail
  obtain ⟨W, hW⟩ : ∃ W, W = (w.alloc (.cells #[.slice a n c] 22)).alloc (.cells #[.int .i64 x] 3) := ⟨_, rfl⟩
  have hbW : Below w.heap.size w W := by rw [hW]; exact bl_alloc (bl_alloc (bl_refl w) _) _
  have ca : W.cell? ⟨w.heap.size, 0, none⟩ = some (.slice a n c) := by rw [hW]; exact cell_alloc_sl _ (cell_new_sl w _ _)
  have cx : W.cell? ⟨w.heap.size + 1, 0, none⟩ = some (.int .i64 x) := by rw [hW]; have := cell_new_sl (w.alloc (.cells #[.slice a n c] 22)) (.int .i64 x) 3; rwa [World.size_alloc] at this
  have hlt1 : w.heap.size + 1 < W.heap.size := by rw [hW]; simp
  have hlt0 : w.heap.size < W.heap.size := by omega
  rw [← hW]
  clear hW
  go_loopw [5] (fun i wr => ∃ e : Nat, i = .int .i64 (e : Int) ∧ 1 ≤ e ∧ e / 2 ≤ n ∧ Hid (∀ j y, j < e / 2 → l[j]? = some y → y < x) ∧ Below W.heap.size W wr) (fun i _ => 2 * n + 2 - (intOf i).toNat)
  case atStart => exact ⟨1, rfl, Nat.le_refl _, by omega, hide (fun j y hj => by omega), bl_refl W⟩
  case round =>
    obtain ⟨e, rfl, he1, hen, HLO, hb⟩ := hrel
    have car : wr.cell? ⟨w.heap.size, 0, none⟩ = some (.slice a n c) := (hb.cell hlt0).trans ca
    have cxr : wr.cell? ⟨w.heap.size + 1, 0, none⟩ = some (.int .i64 x) := (hb.cell hlt1).trans cx
    by_cases hle : e ≤ n
    · obtain ⟨e1, rfl⟩ : ∃ e1, e = e1 + 1 := ⟨e - 1, by omega⟩
      obtain ⟨b, o, y, rfl, hbl, hy, hcy⟩ := ((HI.out.below hbW).below hb).at_ (k := e1) (by omega)
      have HY := hide hy
      have hle' : (e1 : Int) + 1 ≤ (n : Int) := by omega
      have hlt' : (e1 : Int) < (n : Int) := by omega
      have ew1 : IntKind.i64.wrap (e1 : Int) = (e1 : Int) := by rw [IntKind.wrap_i64]; omega
      clear hy
      by_cases hyx : y < x
      · go_wp2_with fail
        have f0 : ∀ wx, CB wr.drew wx → wx.cell? ⟨w.heap.size, 0, none⟩ = some (.slice (some ⟨b, o, none⟩) n c) := fun wx h => h.cell car
        have f1 : ∀ wx, CB wr.drew wx → wx.cell? ⟨w.heap.size + 1, 0, none⟩ = some (.int .i64 x) := fun wx h => h.cell cxr
        have f2 : ∀ wx, CB wr.drew wx → wx.cell? ⟨b, o + e1, none⟩ = some (.int .i64 y) := fun wx h => h.cell hcy
        refine wp_region_K 12 (by kernel_rfl) (by kernel_rfl) (fun Q HQ => ?_)
        simp only [List.take_succ_cons, List.take_zero, List.map_cons, List.map_nil]
        repeat
          first | apply wpS_c rfl | apply wpS_gc rfl (guard_mk rfl rfl)
          focus
            intro ev wx hC hx
            (try simp [Op.operands, Call.operands, opndS, Slot.holds] at hx)
            go_simp
            try (first | exact rfl | exact ⟨Below.refl _ _, rfl⟩)
            done
          dsimp only [setS, List.set]
        refine wpS_nil (HQ _ fun w3 hC3 => ?_)
        simp only [closeS, List.drop_succ_cons, List.drop_zero, List.drop_nil]
        clear HQ f0 f1 f2
        have hb3 : Below W.heap.size W w3 := hb.trans (hC3.below.mono hb.size)
        go_wp2
        go_roundw
        case rel =>
          refine ⟨(e1 + 1) * 2, by go_num, by omega, by omega, hide fun j z hj hz => ?_, hb3⟩
          have := asc_get HA.out (i := j) (j := e1) (by omega) hz HY.out
          omega
        case measure => simp [intOf]; omega
      · have hyx' : x ≤ y := by omega
        go_wp2_with fail
        have f0 : ∀ wx, CB wr.drew wx → wx.cell? ⟨w.heap.size, 0, none⟩ = some (.slice (some ⟨b, o, none⟩) n c) := fun wx h => h.cell car
        have f1 : ∀ wx, CB wr.drew wx → wx.cell? ⟨w.heap.size + 1, 0, none⟩ = some (.int .i64 x) := fun wx h => h.cell cxr
        have f2 : ∀ wx, CB wr.drew wx → wx.cell? ⟨b, o + e1, none⟩ = some (.int .i64 y) := fun wx h => h.cell hcy
        refine wp_region_K 12 (by kernel_rfl) (by kernel_rfl) (fun Q HQ => ?_)
        simp only [List.take_succ_cons, List.take_zero, List.map_cons, List.map_nil]
        repeat
          first | apply wpS_c rfl | apply wpS_gc rfl (guard_mk rfl rfl)
          focus
            intro ev wx hC hx
            (try simp [Op.operands, Call.operands, opndS, Slot.holds] at hx)
            go_simp
            try (first | exact rfl | exact ⟨Below.refl _ _, rfl⟩)
            done
          dsimp only [setS, List.set]
        refine wpS_nil (HQ _ fun w3 hC3 => ?_)
        simp only [closeS, List.drop_succ_cons, List.drop_zero, List.drop_nil]
        clear HQ f0 f1 f2
        have hb3 : Below W.heap.size W w3 := hb.trans (hC3.below.mono hb.size)
        have HHI : ∀ j z, e1 + 1 ≤ j → l[j]? = some z → x ≤ z := fun j z hj hz => by
          have := asc_get HA.out (i := e1) (j := j) (by omega) HY.out hz
          omega
        have hmin : min ((e1 : Int) + 1) (n : Int) = (e1 : Int) + 1 := by omega
        obtain ⟨fr, hfr⟩ : ∃ fr, fr = (e1 + 1) / 2 := ⟨_, rfl⟩
        have efr : ((e1 : Int) + 1) / 2 = (fr : Int) := by omega
        obtain ⟨dd, hdd⟩ : ∃ dd, dd = (e1 + 1) - fr := ⟨_, rfl⟩
        have hft : fr ≤ (e1 + 1) := by omega
        have edd : ((e1 : Int) + 1) - (fr : Int) = (dd : Int) := by omega
        have ewd : IntKind.i64.wrap (dd : Int) = (dd : Int) := by rw [IntKind.wrap_i64]; omega
        obtain ⟨cnt, hcnt⟩ : ∃ cnt, cnt = ((l.drop fr).take dd).countP (fun y => !decide (x ≤ y)) := ⟨_, rfl⟩
        have htot : below l x = fr + cnt := by
          rw [hcnt, hdd]
          exact below_parts hft (by rw [← HN.out]; omega) (fun j y hj hy => HLO.out j y (by omega) hy) HHI
        have hcb : cnt ≤ 100000 := by have := below_le l x; rw [htot, ← HN.out] at this; omega
        have hfb : fr ≤ 100000 := by omega
        obtain ⟨tot, htt⟩ : ∃ tot, tot = fr + cnt := ⟨_, rfl⟩
        have ett : (fr : Int) + (cnt : Int) = (tot : Int) := by omega
        have ewt : IntKind.i64.wrap (tot : Int) = (tot : Int) := by rw [IntKind.wrap_i64]; omega
        rw [← htt] at htot
        have HTOT := hide htot
        have HCNT := hide hcnt
        have hfdn : fr + dd ≤ n := by omega
        have HFDN := hide hfdn
        have ca3 : w3.cell? ⟨w.heap.size, 0, none⟩ = some (.slice (some ⟨b, o, none⟩) n c) := (hb3.cell hlt0).trans ca
        have cx3 : w3.cell? ⟨w.heap.size + 1, 0, none⟩ = some (.int .i64 x) := (hb3.cell hlt1).trans cx
        obtain ⟨w4, hw4⟩ : ∃ w4, w4 = w3.alloc (.cells #[.int .i64 (fr : Int)] 3) := ⟨_, rfl⟩
        have hb4 : Below W.heap.size W w4 := by rw [hw4]; exact hb3.alloc hb3.size _
        have ca4 : w4.cell? ⟨w.heap.size, 0, none⟩ = some (.slice (some ⟨b, o, none⟩) n c) := (hb4.cell hlt0).trans ca
        have cx4 : w4.cell? ⟨w.heap.size + 1, 0, none⟩ = some (.int .i64 x) := (hb4.cell hlt1).trans cx
        have cf4 : w4.cell? ⟨w3.heap.size, 0, none⟩ = some (.int .i64 (fr : Int)) := by rw [hw4]; exact cell_new_sl w3 _ _
        have HI4 := hide ((HI.out.below hbW).below hb4)
        have hbw4 : Below w.heap.size w w4 := hbW.trans (hb4.mono hbW.size)
        have ca4' : (w3.alloc (.cells #[.int .i64 (fr : Int)] 3)).cell? ⟨w.heap.size, 0, none⟩ = some (.slice (some ⟨b, o, none⟩) n c) := by rw [← hw4]; exact ca4
        clear hfr hdd hft htot hcnt htt hfdn HHI
        go_wp2_with fail
        all_goals
          rw [← hw4]
          clear hw4 ca4' ca3 cx3
          have f0 : ∀ wx, CB w4.drew wx → wx.cell? ⟨w3.heap.size, 0, none⟩ = some (.int .i64 (fr : Int)) := fun wx h => h.cell cf4
          refine wp_region_K 6 (by kernel_rfl) (by kernel_rfl) (fun Q HQ => ?_)
          simp only [List.take_succ_cons, List.take_zero, List.map_cons, List.map_nil]
          repeat
            first | apply wpS_c rfl | apply wpS_gc rfl (guard_mk rfl rfl)
            focus
              intro ev wx hC hx
              (try simp [Op.operands, Call.operands, opndS, Slot.holds] at hx)
              go_simp
              try (first | exact rfl | exact ⟨Below.refl _ _, rfl⟩ | (go_at_call 40; refine (gsearch_any (some ⟨b, o, none⟩) n c fr dd w3.heap.size w.heap.size l x w4 _ HI4.out HA.out hn HFDN.out hC.below ca4 cx4 cf4).mono ?_; rintro e w' ⟨rfl, hb⟩; rw [← HCNT.out]; exact ⟨rfl, hb⟩))
              done
            dsimp only [setS, List.set]
          refine wpS_nil (HQ _ fun w5 hC5 => ?_)
          simp only [closeS, List.drop_succ_cons, List.drop_zero, List.drop_nil]
          clear HQ f0
          have hb5 : Below w.heap.size w w5 := hbw4.trans (hC5.below.mono hbw4.size)
          go_wp2
          go_ret
          exact ⟨by rw [HTOT.out]; rfl, hb5⟩
    · have hle' : ¬ (e : Int) ≤ (n : Int) := by omega
      have hlt' : (n : Int) < (e : Int) := by omega
      go_wp2_with fail
      have f0 : ∀ wx, CB wr.drew wx → wx.cell? ⟨w.heap.size, 0, none⟩ = some (.slice a n c) := fun wx h => h.cell car
      have f1 : ∀ wx, CB wr.drew wx → wx.cell? ⟨w.heap.size + 1, 0, none⟩ = some (.int .i64 x) := fun wx h => h.cell cxr
      refine wp_region_K 12 (by kernel_rfl) (by kernel_rfl) (fun Q HQ => ?_)
      simp only [List.take_succ_cons, List.take_zero, List.map_cons, List.map_nil]
      repeat
        first
        | (refine wpS_skip (b := true) rfl (guard_mk rfl rfl) ?_)
        | (refine wpS_skip (b := false) rfl (guard_mk rfl rfl) ?_)
        | (first | apply wpS_c rfl | apply wpS_gc rfl (guard_mk rfl rfl)
           focus
             intro ev wx hC hx
             (try simp [Op.operands, Call.operands, opndS, Slot.holds] at hx)
             go_simp
             try (first | exact rfl | exact ⟨Below.refl _ _, rfl⟩)
             done)
        dsimp only [setS, List.set]
      refine wpS_nil (HQ _ fun w3 hC3 => ?_)
      simp only [closeS, List.drop_succ_cons, List.drop_zero, List.drop_nil]
      clear HQ f0 f1
      have hb3 : Below W.heap.size W w3 := hb.trans (hC3.below.mono hb.size)
      have HHI : ∀ j z, n ≤ j → l[j]? = some z → x ≤ z := fun j z hj hz => by
        have := (List.getElem?_eq_some_iff.1 hz).1
        have := HN.out
        omega
      have hmin : min (e : Int) (n : Int) = (n : Int) := by omega
      obtain ⟨fr, hfr⟩ : ∃ fr, fr = e / 2 := ⟨_, rfl⟩
      have efr : (e : Int) / 2 = (fr : Int) := by omega
      obtain ⟨dd, hdd⟩ : ∃ dd, dd = n - fr := ⟨_, rfl⟩
      have hft : fr ≤ n := by omega
      have edd : (n : Int) - (fr : Int) = (dd : Int) := by omega
      have ewd : IntKind.i64.wrap (dd : Int) = (dd : Int) := by rw [IntKind.wrap_i64]; omega
      obtain ⟨cnt, hcnt⟩ : ∃ cnt, cnt = ((l.drop fr).take dd).countP (fun y => !decide (x ≤ y)) := ⟨_, rfl⟩
      have htot : below l x = fr + cnt := by
        rw [hcnt, hdd]
        exact below_parts hft (by rw [← HN.out]; omega) (fun j y hj hy => HLO.out j y (by omega) hy) HHI
      have hcb : cnt ≤ 100000 := by have := below_le l x; rw [htot, ← HN.out] at this; omega
      have hfb : fr ≤ 100000 := by omega
      obtain ⟨tot, htt⟩ : ∃ tot, tot = fr + cnt := ⟨_, rfl⟩
      have ett : (fr : Int) + (cnt : Int) = (tot : Int) := by omega
      have ewt : IntKind.i64.wrap (tot : Int) = (tot : Int) := by rw [IntKind.wrap_i64]; omega
      rw [← htt] at htot
      have HTOT := hide htot
      have HCNT := hide hcnt
      have hfdn : fr + dd ≤ n := by omega
      have HFDN := hide hfdn
      have ca3 : w3.cell? ⟨w.heap.size, 0, none⟩ = some (.slice a n c) := (hb3.cell hlt0).trans ca
      have cx3 : w3.cell? ⟨w.heap.size + 1, 0, none⟩ = some (.int .i64 x) := (hb3.cell hlt1).trans cx
      obtain ⟨w4, hw4⟩ : ∃ w4, w4 = w3.alloc (.cells #[.int .i64 (fr : Int)] 3) := ⟨_, rfl⟩
      have hb4 : Below W.heap.size W w4 := by rw [hw4]; exact hb3.alloc hb3.size _
      have ca4 : w4.cell? ⟨w.heap.size, 0, none⟩ = some (.slice a n c) := (hb4.cell hlt0).trans ca
      have cx4 : w4.cell? ⟨w.heap.size + 1, 0, none⟩ = some (.int .i64 x) := (hb4.cell hlt1).trans cx
      have cf4 : w4.cell? ⟨w3.heap.size, 0, none⟩ = some (.int .i64 (fr : Int)) := by rw [hw4]; exact cell_new_sl w3 _ _
      have HI4 := hide ((HI.out.below hbW).below hb4)
      have hbw4 : Below w.heap.size w w4 := hbW.trans (hb4.mono hbW.size)
      have ca4' : (w3.alloc (.cells #[.int .i64 (fr : Int)] 3)).cell? ⟨w.heap.size, 0, none⟩ = some (.slice a n c) := by rw [← hw4]; exact ca4
      clear hfr hdd hft htot hcnt htt hfdn HHI
      go_wp2_with fail
      all_goals
        rw [← hw4]
        clear hw4 ca4' ca3 cx3
        have f0 : ∀ wx, CB w4.drew wx → wx.cell? ⟨w3.heap.size, 0, none⟩ = some (.int .i64 (fr : Int)) := fun wx h => h.cell cf4
        refine wp_region_K 6 (by kernel_rfl) (by kernel_rfl) (fun Q HQ => ?_)
        simp only [List.take_succ_cons, List.take_zero, List.map_cons, List.map_nil]
        repeat
          first | apply wpS_c rfl | apply wpS_gc rfl (guard_mk rfl rfl)
          focus
            intro ev wx hC hx
            (try simp [Op.operands, Call.operands, opndS, Slot.holds] at hx)
            go_simp
            try (first | exact rfl | exact ⟨Below.refl _ _, rfl⟩ | (go_at_call 40; refine (gsearch_any a n c fr dd w3.heap.size w.heap.size l x w4 _ HI4.out HA.out hn HFDN.out hC.below ca4 cx4 cf4).mono ?_; rintro e w' ⟨rfl, hb⟩; rw [← HCNT.out]; exact ⟨rfl, hb⟩))
            done
          dsimp only [setS, List.set]
        refine wpS_nil (HQ _ fun w5 hC5 => ?_)
        simp only [closeS, List.drop_succ_cons, List.drop_zero, List.drop_nil]
        clear HQ f0
        have hb5 : Below w.heap.size w w5 := hbw4.trans (hC5.below.mono hbw4.size)
        go_wp2
        go_ret
        exact ⟨by rw [HTOT.out]; rfl, hb5⟩
end Go.Proofs.Ytjiijhbkbmnhbaa
