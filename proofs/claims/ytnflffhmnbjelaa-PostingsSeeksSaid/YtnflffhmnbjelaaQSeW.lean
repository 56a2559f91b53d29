/- The walks of At and of Seek. -/
import Derived.Shelf.SlSorted.Search
import Derived.RegionTactic
import Derived.Test.YtnflffhmnbjelaaQPaW
namespace Go.Proofs.Ytnflffhmnbjelaa
open Go.Shelf in
def Try.search16_ren : Go.Shelf.Ren := ⟨fun | 16 => 25 | n => n, fun | 3 => 3 | 35 => 56 | 4 => 4 | 38 => 81 | n => n, fun | n => n⟩
open Go.Shelf in
theorem Try.search16 : Go.Proofs.SlLaysO.n16 Try.prog Try.search16_ren := {
  mixed := by kernel_rfl
  f16 := Try.func25.trans (congrArg some (by kernel_rfl))
  t3 := Try.underlying3
  a3 := Try.isAgg3
  z3 := Try.sizeOf3
  v3 := Try.zeroValue3
  t4 := Try.underlying4
  a4 := Try.isAgg4
  z4 := Try.sizeOf4
  v4 := Try.zeroValue4
  t35 := Try.underlying56
  a35 := Try.isAgg56
  z35 := Try.sizeOf56
  v35 := Try.zeroValue56
  t38 := Try.underlying81
  a38 := Try.isAgg81
  z38 := Try.sizeOf81
  v38 := Try.zeroValue81 }
open Go.RowKit Go.Shelf Go.Lib Go.Sort
set_option linter.unusedVariables false
set_option linter.unusedSimpArgs false
theorem chunkQ_at {l : List Nat} {k j i x : Nat} (h : l[i]? = some x) (h1 : 16 * k ≤ i) (h2 : i < j) : (chunkQ l k j)[i - 16 * k]? = some x := by
  unfold chunkQ
  rw [List.getElem?_drop, List.getElem?_take, if_pos (by omega), show 16 * k + (i - 16 * k) = i by omega]
  exact h
/-- What At answers. -/
def AtRes (l : List Nat) (i : Int) (e : Ending) : Prop := (i < 0 ∨ (l.length : Int) ≤ i → e = .returned (.tuple #[.int .i64 0, .bool false])) ∧ (∀ k x, i = (k : Nat) → l[k]? = some x → e = .returned (.tuple #[.int .i64 (x : Int), .bool true]))
set_option maxRecDepth 100000 in
theorem at_any (g : Nat) (l : List Nat) (i : Int) (w : World) (h : LstS w g l) (hok : okQ l) (hl : szQ l) :
    Calls Try.prog 17 #[.pointer (some ⟨g, 0, none⟩), .int .i64 i] w fun e w' => AtRes l i e ∧ Below w.heap.size w w' := by
  have HL := hide h
  have HOK := hide hok
  obtain ⟨n, hn⟩ : ∃ n, n = l.length := ⟨_, rfl⟩
  obtain ⟨A, m, c, B, ks, d, hg, -⟩ := h
  have c0 : w.cell? ⟨g, 0, none⟩ = some (.int .i64 (n : Int)) := by rw [hn]; exact cell_of_row w g 0 _ _ _ hg
  have HN := hide hn
  have hn3 : n ≤ 5000 := by rw [hn]; exact hl.1
  clear hok hg
  by_cases h1 : i < 0
  · clear hn
    go_enter Try.func17, Try.ntmps17
    go_wp2
    go_ret2
    exact ⟨⟨fun _ => rfl, fun k x hk => absurd hk (by omega)⟩, bl_refl w⟩
  by_cases h2 : (n : Int) ≤ i
  · clear hn
    go_enter Try.func17, Try.ntmps17
    go_wp2
    go_ret2
    exact ⟨⟨fun _ => rfl, fun k x hk hx => by have := (List.getElem?_eq_some_iff.1 hx).1; have := HN.out; omega⟩, bl_refl w⟩
  obtain ⟨k, rfl⟩ := Int.eq_ofNat_of_zero_le (show 0 ≤ i by omega)
  obtain ⟨x, hx⟩ : ∃ x, l[k]? = some x := ⟨_, List.getElem?_eq_getElem (by omega)⟩
  obtain ⟨q, hq⟩ : ∃ q, q = k / 16 := ⟨_, rfl⟩
  obtain ⟨r, hr⟩ : ∃ r, r = k % 16 := ⟨_, rfl⟩
  have eq : (k : Int) / 16 = (q : Int) := by omega
  have er : (k : Int) % 16 = (r : Int) := by omega
  obtain ⟨mm, hmm⟩ : ∃ mm, mm = min l.length (16 * (q + 1)) - 16 * q := ⟨_, rfl⟩
  have hrm : r < mm := by omega
  have hrk : k - 16 * q = r := by omega
  have hat := chunkQ_at (k := q) (j := min l.length (16 * (q + 1))) hx (by omega) (by omega)
  rw [hrk] at hat
  have HAT := hide hat
  have HX := hide hx
  have HP := hide (part_any g q l (q : Int) w HL.out HOK.out hl rfl (by omega))
  rw [← hmm] at HP
  have hrmi : (r : Int) < (mm : Int) := by omega
  clear hat hx hq hr hmm hrk hn
  go_enter Try.func17, Try.ntmps17
  go_wp2_with fail
  refine HP.out.mono ?_
  rintro e w1 ⟨v, rfl, ho, hb⟩
  obtain ⟨go_, co, rfl, -⟩ := own_some ho (by omega)
  obtain ⟨⟨vq, hvq, mq⟩, mf⟩ := own_at ho hrm
  have hvq2 : vq = .int .i64 (x : Int) := by
    rw [List.getElem?_map, HAT.out] at hvq
    exact (Option.some.inj hvq).symm
  rw [hvq2] at mq
  have HB := hide hb
  clear ho hvq hvq2 hb
  go_wp2
  go_ret2
  exact ⟨⟨fun h => absurd h (by have := HN.out; omega), fun k' x' hk hx' => by
    obtain rfl : k = k' := by omega
    have := HX.out
    rw [hx'] at this
    injection this with this
    rw [this]; rfl⟩, HB.out⟩
set_option maxHeartbeats 2000000 in
set_option maxRecDepth 100000 in
theorem seekc_any (bl bp g b o ks d i : Nat) (p : Int) (y : Nat) (W : World) (hi : i < ks) (hn : ks ≤ 100000)
    (ha : W.cell? ⟨bl, 0, none⟩ = some (.pointer (some ⟨g, 0, none⟩))) (hf : W.cell? ⟨bp, 0, none⟩ = some (.int .i64 p)) (hx : W.cell? ⟨g, 3, none⟩ = some (.slice (some ⟨b, o, none⟩) ks d)) (hc : W.cell? ⟨b, o + i * 2, none⟩ = some (.int .i64 (y : Int))) :
    Calls Try.prog 26 (#[.int .i64 (i : Int)] ++ #[.pointer (some ⟨bl, 0, none⟩), .pointer (some ⟨bp, 0, none⟩)]) W fun e w' => e = .returned (.bool (decide (p ≤ (y : Int)))) ∧ ∃ q, w' = W.drewN q := by
  have hkn : (i : Int) < (ks : Int) := by omega
  clear hi
  go_enter Try.func26, Try.ntmps26
  go_wp2
  go_region
  all_goals go_wp2
  all_goals go_ret
  all_goals exact ⟨by first | rfl | simp, 1, rfl⟩
/-- How many entries of the skip table are less. -/
def cntK (l : List Nat) (p : Int) : Nat := (List.range ((l.length + 15) / 16)).countP fun i => !decide (p ≤ ((l.getD (16 * i) 0 : Nat) : Int))
theorem cnt_mono (q : Nat → Bool) : ∀ n, (∀ i j, i ≤ j → j < n → q j = true → q i = true) → (∀ i, i < (List.range n).countP q → q i = true) ∧ (∀ i, (List.range n).countP q ≤ i → i < n → q i = false)
  | 0, _ => ⟨fun i h => by simp at h, fun i _ h => absurd h (by omega)⟩
  | n + 1, hm => by
    have ih := cnt_mono q n (fun i j h1 h2 => hm i j h1 (by omega))
    have hle : (List.range n).countP q ≤ n := by have := List.countP_le_length (p := q) (l := List.range n); simpa using this
    rw [List.range_succ, List.countP_append]
    cases hq : q n with
    | true =>
      have hall : ∀ i, i ≤ n → q i = true := fun i hi => hm i n hi (by omega) hq
      have e : (List.range n).countP q = n := by
        have h1 : (List.range n).countP q = (List.range n).length := List.countP_eq_length.2 fun x hx => hall x (by have := List.mem_range.1 hx; omega)
        simpa using h1
      rw [e]
      simp only [List.countP_singleton, hq, if_true]
      exact ⟨fun i hi => hall i (by omega), fun i h1 h2 => absurd h2 (by omega)⟩
    | false =>
      simp only [List.countP_singleton, hq]
      refine ⟨fun i hi => ih.1 i (by simpa using hi), fun i h1 h2 => ?_⟩
      have h1 : (List.range n).countP q ≤ i := by simpa using h1
      by_cases hin : i = n
      · rw [hin]; exact hq
      · exact ih.2 i h1 (by omega)
theorem skip_mono {l : List Nat} (hok : okQ l) {i j : Nat} (hij : i ≤ j) (hj : 16 * j < l.length) : l.getD (16 * i) 0 ≤ l.getD (16 * j) 0 := by
  by_cases h : i = j
  · rw [h]; exact Nat.le_refl _
  · obtain ⟨x, hx⟩ : ∃ x, l[16 * i]? = some x := ⟨_, List.getElem?_eq_getElem (by omega)⟩
    obtain ⟨y, hy⟩ : ∃ y, l[16 * j]? = some y := ⟨_, List.getElem?_eq_getElem hj⟩
    rw [getD_at hx, getD_at hy]
    exact Nat.le_of_lt (okQ_lt hok hx hy (by omega))
theorem cntK_spec {l : List Nat} (hok : okQ l) (p : Int) : (∀ i, i < cntK l p → ((l.getD (16 * i) 0 : Nat) : Int) < p) ∧ (∀ i, cntK l p ≤ i → 16 * i < l.length → p ≤ ((l.getD (16 * i) 0 : Nat) : Int)) ∧ cntK l p ≤ (l.length + 15) / 16 := by
  have h := cnt_mono (fun i => !decide (p ≤ ((l.getD (16 * i) 0 : Nat) : Int))) ((l.length + 15) / 16) (fun i j hij hj hq => by
    have h1 := skip_mono hok hij (by omega)
    have h2 : ¬ p ≤ ((l.getD (16 * j) 0 : Nat) : Int) := by simpa only [Bool.not_eq_true', decide_eq_false_iff_not] using hq
    have h3 : ¬ p ≤ ((l.getD (16 * i) 0 : Nat) : Int) := by omega
    simpa only [Bool.not_eq_true', decide_eq_false_iff_not] using h3)
  refine ⟨fun i hi => by have := h.1 i hi; simpa using this, fun i h1 h2 => by have := h.2 i h1 (by omega); simpa using this, ?_⟩
  have := List.countP_le_length (p := fun i => !decide (p ≤ ((l.getD (16 * i) 0 : Nat) : Int))) (l := List.range ((l.length + 15) / 16))
  simpa [cntK] using this
theorem ssearch_any (bl bp g : Nat) (p : Int) (l : List Nat) (w : World) (h : LstS w g l) (hok : okQ l) (hl : l.length ≤ 5000)
    (ca : w.cell? ⟨bl, 0, none⟩ = some (.pointer (some ⟨g, 0, none⟩))) (cp : w.cell? ⟨bp, 0, none⟩ = some (.int .i64 p)) :
    Calls Try.prog 25 #[.int .i64 (((l.length + 15) / 16 : Nat) : Int), .func (.func 26) #[] #[.pointer (some ⟨bl, 0, none⟩), .pointer (some ⟨bp, 0, none⟩)]] w
      fun e w' => e = .returned (.int .i64 ((cntK l p : Nat) : Int)) ∧ Below w.heap.size w w' := by
  have eg : ∀ args w, (callFunc 26 args).run Try.prog w = .ok (.enter 26 args) w := enters_of Try.func26 (by kernel_rfl) rfl
  obtain ⟨A, m, c, B, ks, d, hg, hm, hmc, hr, hks, hksd, hsk⟩ := h
  have c3 : w.cell? ⟨g, 3, none⟩ = some (.slice B ks d) := cell_of_row w g 3 _ _ _ hg
  rw [skQ_length] at hks
  have hS := Any.sort_Search Try.search16 26 #[.pointer (some ⟨bl, 0, none⟩), .pointer (some ⟨bp, 0, none⟩)] ((l.length + 15) / 16) (fun i => decide (p ≤ ((l.getD (16 * i) 0 : Nat) : Int))) w eg (by omega)
    (fun m os i hi => by
      have hat := skQ_at l l.length i (by omega)
      obtain ⟨b, o, rfl, hbl, e0⟩ := hsk.at_ (sk_get _ i 0 _ _ hat rfl)
      exact (seekc_any bl bp g b o ks d i p (l.getD (16 * i) 0) _ (by omega) (by omega) (cell_grown (lt_heap ca) ca m os) (cell_grown (lt_heap cp) cp m os) (cell_grown (lt_heap c3) c3 m os) (cell_grown hbl e0 m os)).mono
        fun _ _ ⟨he, q, hq⟩ => ⟨he, q, #[], by rw [hq, grow_empty]⟩)
    (fun i j hij hj hp => by
      have h1 := skip_mono hok hij (by omega)
      have h2 : p ≤ ((l.getD (16 * i) 0 : Nat) : Int) := of_decide_eq_true hp
      exact decide_eq_true (by omega))
  exact hS.mono fun e w' ⟨h1, q, os, h2⟩ => ⟨h1, by rw [h2]; exact below_grown_sl _ w q os (Nat.le_refl _)⟩
end Go.Proofs.Ytnflffhmnbjelaa
