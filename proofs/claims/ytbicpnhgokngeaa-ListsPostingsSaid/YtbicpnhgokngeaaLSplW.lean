/- The walk of split. -/
import Derived.Test.YtbicpnhgokngeaaLGalW
namespace Go.Proofs.Ytbicpnhgokngeaa
open Go.RowKit
set_option linter.unusedVariables false
set_option linter.unusedSimpArgs false
theorem info_int : (Try.prog.info? 3).map (fun i => (i.zero, i.size, i.bytes)) = some (some (.int .i64 0), 1, 8) := by kernel_rfl
theorem IsI.drop {w : World} {a : Option Addr} {n c : Nat} {l : List Int} (h : IsI w a n l) (k : Nat) (hk : k ≤ n) (hc : n ≤ c) : IsI w (if c = k then a else Option.map (fun x => x.add k) a) (n - k) (l.drop k) := by
  obtain ⟨h1, h2⟩ := h
  refine ⟨by rw [List.length_drop, ← h1], ?_⟩
  rcases h2 with h2 | ⟨b, o, rfl, hb, hcell⟩
  · have : l = [] := by simpa using h2
    rw [this]; left; simp
  · by_cases hck : c = k
    · have : l.drop k = [] := List.drop_of_length_le (by omega)
      rw [this]; left; rfl
    · rw [if_neg hck]
      refine .inr ⟨b, o + k, by simp [Addr.add], hb, fun j v hv => ?_⟩
      rw [List.map_drop, List.getElem?_drop] at hv
      have := hcell (k + j) v hv
      rwa [show o + k + j = o + (k + j) by omega]
theorem one_iv (l : List Int) : ∀ u ∈ l.map iv, u.oneCell' = true := by
  intro u hu
  obtain ⟨_, _, rfl⟩ := List.mem_map.1 hu
  rfl
theorem row_other {w w' : World} {base size n : Nat} {e : TypeId} {v : Value} {xs : List Value} {r : Option Nat} (h : w.ownsRow base e size v n xs) (hg : w.grownBy w' r) (hne : ∀ j, v.ownBlock = some j → r ≠ some j) : w'.ownsRow base e size v n xs := by
  refine h.kept hg ?_
  cases hv : v.ownBlock with
  | none => exact .inl rfl
  | some j => exact .inr (fun e => hne j hv e.symm)
theorem both_len (la lb : List Int) (k : Nat) : (both (la.take k) lb).length ≤ k := by
  have h1 := List.length_filter_le (fun x => decide (x ∈ lb)) (la.take k)
  have h2 : (la.take k).length ≤ k := by simp; omega
  unfold both; omega
theorem less_len (la lb : List Int) (k : Nat) : (less (la.take k) lb).length ≤ k := by
  have h1 := List.length_filter_le (fun x => !decide (x ∈ lb)) (la.take k)
  have h2 : (la.take k).length ≤ k := by simp; omega
  unfold less; omega
theorem both_yes {la lb : List Int} {k : Nat} {x : Int} (hx : la[k]? = some x) (hm : x ∈ lb) : both (la.take (k + 1)) lb = both (la.take k) lb ++ [x] := by
  unfold both; rw [List.take_add_one, hx, List.filter_append]; simp [hm]
theorem both_no {la lb : List Int} {k : Nat} {x : Int} (hx : la[k]? = some x) (hm : ¬ x ∈ lb) : both (la.take (k + 1)) lb = both (la.take k) lb := by
  unfold both; rw [List.take_add_one, hx, List.filter_append]; simp [hm]
theorem less_yes {la lb : List Int} {k : Nat} {x : Int} (hx : la[k]? = some x) (hm : x ∈ lb) : less (la.take (k + 1)) lb = less (la.take k) lb := by
  unfold less; rw [List.take_add_one, hx, List.filter_append]; simp [hm]
theorem less_no {la lb : List Int} {k : Nat} {x : Int} (hx : la[k]? = some x) (hm : ¬ x ∈ lb) : less (la.take (k + 1)) lb = less (la.take k) lb ++ [x] := by
  unfold less; rw [List.take_add_one, hx, List.filter_append]; simp [hm]
set_option maxHeartbeats 2000000 in
set_option maxRecDepth 100000 in
theorem split_any (a b : Option Addr) (n c m d : Nat) (la lb : List Int) (w : World) (ha : IsI w a n la) (hb : IsI w b m lb) (hc : n ≤ c) (hd : m ≤ d) (hdm : d ≤ maxLen) (haa : asc la) (hab : asc lb) (hn : n ≤ 100000) (hm : m ≤ 100000) :
    Calls Try.prog 19 #[.slice a n c, .slice b m d] w fun e w' => ∃ v1 v2, e = .returned (.tuple #[v1, v2]) ∧ w'.ownsRow w.heap.size 3 1 v1 (both la lb).length ((both la lb).map iv) ∧ w'.ownsRow w.heap.size 3 1 v2 (less la lb).length ((less la lb).map iv) ∧ Below w.heap.size w w' := by
  obtain ⟨i0, hi0, hz0, hz1, hz2⟩ := info_parts info_int
  have HA := hide ha
  have HB := hide hb
  have HN := hide ha.1
  have HAA := hide haa
  have HAB := hide hab
  unfold maxLen at hdm
  clear ha hb haa hab
  go_enter Try.func19, Try.ntmps19
  go_wp2_with fail
  go_loopw [1, 4, 5, 10] (fun vb v4 v5 i wr => ∃ (k : Nat) (A : Option Addr) (nb cb : Nat) (lr : List Int), i = .int .i64 (k : Int) ∧ vb = .slice A nb cb ∧ k ≤ n ∧ nb ≤ cb ∧ nb ≤ m ∧ cb ≤ 2 ^ 63 - 1 ∧ Hid (IsI w A nb lr ∧ asc lr ∧ ∀ y ∈ la.drop k, y ∈ lr ↔ y ∈ lb) ∧
    Hid (wr.ownsRow w.heap.size 3 1 v4 (both (la.take k) lb).length ((both (la.take k) lb).map iv)) ∧ Hid (wr.ownsRow w.heap.size 3 1 v5 (less (la.take k) lb).length ((less (la.take k) lb).map iv)) ∧
    Hid (∀ j, v4.ownBlock = some j → v5.ownBlock ≠ some j) ∧ Below w.heap.size w wr) (fun _ _ _ i _ => n - (intOf i).toNat)
  case atStart => exact ⟨0, b, m, d, lb, rfl, rfl, Nat.zero_le _, hd, Nat.le_refl _, hdm, hide ⟨HB.out, HAB.out, fun y _ => Iff.rfl⟩, hide (by simpa [both] using World.ownsRow_nil _ _ _ _), hide (by simpa [less] using World.ownsRow_nil _ _ _ _), hide (fun j h => by cases h), bl_refl w⟩
  case round =>
    obtain ⟨k, A, nb, cb, lr, rfl, rfl, hk, hnc, hnm, hcb, HL, HO4, HO5, HNE, hbw⟩ := hrel
    by_cases hlt : k < n
    · obtain ⟨b1, o1, x, rfl, hbl, hx, e0⟩ := (HA.out.below hbw).at_ hlt
      have hkn : (k : Int) < (n : Int) := by omega
      have HX := hide hx
      clear hx hlt
      go_wp2_with fail
      refine (gallop_any A nb cb lr x wr (HL.out.1.below hbw) HL.out.2.1 (by omega)).mono ?_
      rintro e w2 ⟨rfl, hb2⟩
      obtain ⟨g, hg⟩ : ∃ g, g = below lr x := ⟨_, rfl⟩
      have hgn : g ≤ nb := by rw [hg, HL.out.1.1]; exact below_le lr x
      have hgi : (g : Int) ≤ (nb : Int) := by omega
      rw [← hg]
      have HG := hide hg
      have hbw2 := hbw.trans (hb2.mono hbw.size)
      clear hg
      have hnext : asc (lr.drop g) ∧ ∀ y ∈ la.drop (k + 1), y ∈ lr.drop g ↔ y ∈ lb := by
        have h1 := HL.out.2.1
        have h2 := HL.out.2.2
        rw [HG.out, below_drop lr x h1]
        refine ⟨asc_filter h1 _, fun y hy => ?_⟩
        have hd := dropl_at HX.out
        have h3 : x < y := by
          have h4 : asc (la.drop k) := List.Pairwise.sublist (List.drop_sublist _ _) HAA.out
          rw [hd] at h4
          exact (asc_cons.1 h4).1 y hy
        rw [← h2 y (by rw [hd]; simp [hy])]
        simp; intro _; omega
      have hxm : x ∈ lb ↔ lr[g]? = some x := by
        rw [← HL.out.2.2 x (by rw [dropl_at HX.out]; simp), below_mem HL.out.2.1, ← HG.out, List.getElem?_drop, Nat.add_zero]
      have HNXT := hide hnext
      have HXM := hide hxm
      have HLB := hide (show (both (la.take k) lb).length ≤ 100000 from Nat.le_trans (both_len la lb k) (by omega))
      have HLL := hide (show (less (la.take k) lb).length ≤ 100000 from Nat.le_trans (less_len la lb k) (by omega))
      clear hnext hxm
      by_cases hgN : g = nb
      · have hmem : ¬ x ∈ lb := fun h => by
          have := HXM.out.1 h
          rw [List.getElem?_eq_none (by rw [← HL.out.1.1]; omega)] at this
          cases this
        have hlx : lr.drop g = [] := List.drop_of_length_le (by rw [← HL.out.1.1]; omega)
        obtain ⟨n0, c0⟩ : nb - g = 0 ∧ True := ⟨by omega, trivial⟩
        have HLX : ∀ A', Hid (IsI w A' 0 ([] : List Int) ∧ asc [] ∧ ∀ y ∈ la.drop (k + 1), y ∈ ([] : List Int) ↔ y ∈ lb) := fun A' => hide ⟨⟨rfl, .inl rfl⟩, asc_nil, by rw [← hlx]; exact HNXT.out.2⟩
        subst hgN
        by_cases hcg : cb = g
        · clear hlx
          go_wp2_with (at_builtin; (refine wpList_append_rd _ rfl (.tmp 33) (.tmp 35) 22 rfl w.heap.size 3 i0 _ 1 8 Try.underlying22 hi0 hz0 hz1 hz2 rfl (by omega) u5 (less (la.take k) lb).length ((less (la.take k) lb).map iv) rfl ((own_below HO5.out hb2).alloc _) _ 1 1 [iv x] rfl rfl (rd_lit _ _ _ _) (one_iv [x]) (by have := HLL.out; simp only [maxLen]; omega) (by have := HLL.out; omega) (by have := hbw2.size; simp; omega) ?_); intro v6 w6 hown6 hg6 hat6)
          go_roundw
          case rel =>
            refine ⟨k + 1, A, 0, cb - g, [], by go_num, by first | (simp; done) | (simp; omega), by omega, by omega, by omega, by omega, HLX _, hide ?_, hide ?_, hide ?_, ?_⟩
            · rw [both_no HX.out hmem]
              exact row_other ((own_below HO4.out hb2).alloc _) hg6 (fun j hj e => HNE.out j hj e)
            · rw [less_no HX.out hmem, List.map_append, List.length_append]
              exact hown6
            · intro j hj e
              rcases hat6 with h | h
              · rw [h] at e; exact HNE.out j hj e
              · rw [h] at e
                have h2 := (HO4.out.lt j hj).2
                have h3 := hb2.size
                injection e with e
                simp at e; omega
            · exact bl_grown (bl_alloc hbw2 _) hg6 (fun j hj => (HO5.out.lt j hj).1)
          case measure => simp [intOf]; omega
        · clear hlx
          go_wp2_with (at_builtin; (refine wpList_append_rd _ rfl (.tmp 33) (.tmp 35) 22 rfl w.heap.size 3 i0 _ 1 8 Try.underlying22 hi0 hz0 hz1 hz2 rfl (by omega) u5 (less (la.take k) lb).length ((less (la.take k) lb).map iv) rfl ((own_below HO5.out hb2).alloc _) _ 1 1 [iv x] rfl rfl (rd_lit _ _ _ _) (one_iv [x]) (by have := HLL.out; simp only [maxLen]; omega) (by have := HLL.out; omega) (by have := hbw2.size; simp; omega) ?_); intro v6 w6 hown6 hg6 hat6)
          go_roundw
          case rel =>
            refine ⟨k + 1, Option.map (fun x => x.add g) A, 0, cb - g, [], by go_num, by first | (simp; done) | (simp; omega), by omega, by omega, by omega, by omega, HLX _, hide ?_, hide ?_, hide ?_, ?_⟩
            · rw [both_no HX.out hmem]
              exact row_other ((own_below HO4.out hb2).alloc _) hg6 (fun j hj e => HNE.out j hj e)
            · rw [less_no HX.out hmem, List.map_append, List.length_append]
              exact hown6
            · intro j hj e
              rcases hat6 with h | h
              · rw [h] at e; exact HNE.out j hj e
              · rw [h] at e
                have h2 := (HO4.out.lt j hj).2
                have h3 := hb2.size
                injection e with e
                simp at e; omega
            · exact bl_grown (bl_alloc hbw2 _) hg6 (fun j hj => (HO5.out.lt j hj).1)
          case measure => simp [intOf]; omega
      · have hgl : g < nb := by omega
        obtain ⟨b2, o2, y, rfl, hbl2, hy, e2⟩ := (HL.out.1.below hbw2).at_ hgl
        have hcg : ¬ cb = g := by omega
        obtain ⟨n2, hn2⟩ : ∃ n2, n2 = nb - g := ⟨_, rfl⟩
        obtain ⟨c2, hc2⟩ : ∃ c2, c2 = cb - g := ⟨_, rfl⟩
        have hn2' := hn2.symm
        have hc2' := hc2.symm
        have hn20 : 0 < n2 := by omega
        have hn20' : (0 : Int) < (n2 : Int) := by omega
        have hdr := HL.out.1.drop g hgn hnc
        rw [if_neg hcg, ← hn2, Option.map_some, Addr.add_lit] at hdr
        have HLX : Hid (IsI w (some ⟨b2, o2 + g, none⟩) n2 (lr.drop g) ∧ asc (lr.drop g) ∧ ∀ y ∈ la.drop (k + 1), y ∈ lr.drop g ↔ y ∈ lb) := hide ⟨hdr, HNXT.out.1, HNXT.out.2⟩
        have HY := hide hy
        have hb1 : n2 ≤ c2 := by omega
        have hb3 : n2 ≤ m := by omega
        have hb4 : c2 ≤ 2 ^ 63 - 1 := by omega
        clear hdr hn2 hc2 hy
        by_cases hyx : y = x
        · subst hyx
          have hmem : y ∈ lb := HXM.out.2 HY.out
          go_wp2_with (at_builtin; (refine wpList_append_rd _ rfl (.tmp 29) (.tmp 31) 22 rfl w.heap.size 3 i0 _ 1 8 Try.underlying22 hi0 hz0 hz1 hz2 rfl (by omega) u4 (both (la.take k) lb).length ((both (la.take k) lb).map iv) rfl ((own_below HO4.out hb2).alloc _) _ 1 1 [iv y] rfl rfl (rd_lit _ _ _ _) (one_iv [y]) (by have := HLB.out; simp only [maxLen]; omega) (by have := HLB.out; omega) (by have := hbw2.size; simp; omega) ?_); intro v6 w6 hown6 hg6 hat6)
          go_roundw
          case rel =>
            refine ⟨k + 1, some ⟨b2, o2 + g, none⟩, n2, c2, lr.drop g, by go_num, rfl, by omega, hb1, hb3, hb4, HLX, hide ?_, hide ?_, hide ?_, ?_⟩
            · rw [both_yes HX.out hmem, List.map_append, List.length_append]
              exact hown6
            · rw [less_yes HX.out hmem]
              exact row_other ((own_below HO5.out hb2).alloc _) hg6 (fun j hj e => HNE.out j e hj)
            · intro j hj e
              rcases hat6 with h | h
              · rw [h] at hj; exact HNE.out j hj e
              · rw [h] at hj
                have h2 := (HO5.out.lt j e).2
                have h3 := hb2.size
                injection hj with hj
                simp at hj; omega
            · exact bl_grown (bl_alloc hbw2 _) hg6 (fun j hj => (HO4.out.lt j hj).1)
          case measure => simp [intOf]; omega
        · have hmem : ¬ x ∈ lb := fun h => by
            have := HXM.out.1 h
            rw [HY.out] at this
            injection this with this
            exact hyx this
          have hyx' : (y == x) = false := by simpa using hyx
          go_wp2_with (at_builtin; (refine wpList_append_rd _ rfl (.tmp 33) (.tmp 35) 22 rfl w.heap.size 3 i0 _ 1 8 Try.underlying22 hi0 hz0 hz1 hz2 rfl (by omega) u5 (less (la.take k) lb).length ((less (la.take k) lb).map iv) rfl ((own_below HO5.out hb2).alloc _) _ 1 1 [iv x] rfl rfl (rd_lit _ _ _ _) (one_iv [x]) (by have := HLL.out; simp only [maxLen]; omega) (by have := HLL.out; omega) (by have := hbw2.size; simp; omega) ?_); intro v6 w6 hown6 hg6 hat6)
          go_roundw
          case rel =>
            refine ⟨k + 1, some ⟨b2, o2 + g, none⟩, n2, c2, lr.drop g, by go_num, rfl, by omega, hb1, hb3, hb4, HLX, hide ?_, hide ?_, hide ?_, ?_⟩
            · rw [both_no HX.out hmem]
              exact row_other ((own_below HO4.out hb2).alloc _) hg6 (fun j hj e => HNE.out j hj e)
            · rw [less_no HX.out hmem, List.map_append, List.length_append]
              exact hown6
            · intro j hj e
              rcases hat6 with h | h
              · rw [h] at e; exact HNE.out j hj e
              · rw [h] at e
                have h2 := (HO4.out.lt j hj).2
                have h3 := hb2.size
                injection e with e
                simp at e; omega
            · exact bl_grown (bl_alloc hbw2 _) hg6 (fun j hj => (HO5.out.lt j hj).1)
          case measure => simp [intOf]; omega
    · obtain rfl : k = n := by omega
      have hfull : la.take k = la := List.take_of_length_le (by rw [← HN.out]; exact Nat.le_refl _)
      have h4 := HO4.out
      have h5 := HO5.out
      rw [hfull] at h4 h5
      have H4 := hide h4
      have H5 := hide h5
      clear h4 h5 hfull
      go_wp2
      go_ret2
      exact ⟨u4, u5, rfl, H4.out, H5.out, hbw⟩
end Go.Proofs.Ytbicpnhgokngeaa
