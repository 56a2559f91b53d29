/- The walks of both Shifts, and of the laws ListsShifts and ListsMerges. -/
import Derived.Test.YtjiijhbkbmnhbaaLCmbW
namespace Go.Proofs.Ytjiijhbkbmnhbaa
open Go.RowKit
set_option linter.unusedVariables false
set_option linter.unusedSimpArgs false
set_option maxHeartbeats 2000000 in
set_option maxRecDepth 100000 in
theorem shift_any (a : Option Addr) (n c : Nat) (l : List Int) (y lim : Int) (w : World) (h : IsI w a n l) (hc : n ≤ c) (hcm : c ≤ maxLen) :
    Calls Try.prog 25 #[.slice a n c, .int .i64 y, .int .i64 lim] w fun e w' => LRes w.heap.size (shiftM l y lim) e w' ∧ Below w.heap.size w w' := by
  obtain ⟨i0, hi0, hz0, hz1, hz2⟩ := info_parts info_int
  have HI := hide h
  have HN := hide h.1
  clear h
  go_enter Try.func25, Try.ntmps25
  go_wp2_with fail
  refine (check_any a n c l w HI.out hc hcm).mono ?_
  rintro e w1 ⟨rfl, hb1⟩
  by_cases hz : chkL l = 0
  case neg =>
    have hr : shiftM l y lim = ([], chkL l) := by unfold shiftM; rw [if_neg hz]
    obtain ⟨q, hq⟩ : ∃ q, q = chkL l := ⟨_, rfl⟩
    rw [← hq] at hr hz ⊢
    have hqz : ((q : Int) != 0) = true := by rw [bne_iff_ne]; omega
    have HR := hide hr
    clear hr hz hq
    go_wp2
    go_ret2
    exact ⟨⟨_, by rw [HR.out]; rfl, by rw [HR.out]; exact World.ownsRow_nil _ _ _ _⟩, hb1⟩
  have HZ := hide hz
  have h3 := (chkL_zero l).1 hz
  have HV := hide h3.2
  have hn4 : n ≤ 4096 := by rw [HN.out]; exact h3.1
  rw [hz]
  clear hz h3
  go_wp2_with fail
  refine (badO_any y w1).mono ?_
  rintro e w' ⟨rfl, rfl⟩
  cases hbo : badO y
  case true =>
    have hr : shiftM l y lim = ([], 1) := by unfold shiftM; rw [if_pos HZ.out, if_pos (.inl hbo)]
    have HR := hide hr
    clear hr
    go_wp2
    go_ret2
    exact ⟨⟨_, by rw [HR.out]; rfl, by rw [HR.out]; exact World.ownsRow_nil _ _ _ _⟩, hb1⟩
  by_cases h4 : lim < 0
  · skip
    have hr : shiftM l y lim = ([], 1) := by unfold shiftM; rw [if_pos HZ.out, if_pos (.inr (.inl h4))]
    have HR := hide hr
    clear hr
    go_wp2
    go_ret2
    exact ⟨⟨_, by rw [HR.out]; rfl, by rw [HR.out]; exact World.ownsRow_nil _ _ _ _⟩, hb1⟩
  by_cases h5 : 2147483647 < lim
  · skip
    have hr : shiftM l y lim = ([], 1) := by unfold shiftM; rw [if_pos HZ.out, if_pos (.inr (.inr h5))]
    have HR := hide hr
    clear hr
    go_wp2
    go_ret2
    exact ⟨⟨_, by rw [HR.out]; rfl, by rw [HR.out]; exact World.ownsRow_nil _ _ _ _⟩, hb1⟩
  have hy1 : -4096 ≤ y := by unfold badO at hbo; simp at hbo; omega
  have hy2 : y ≤ 4096 := by unfold badO at hbo; simp at hbo; omega
  clear hbo
  have hr : shiftM l y lim = (shv l y lim, 0) := by
    unfold shiftM
    rw [if_pos HZ.out, if_neg]
    unfold badO
    simp
    omega
  have HR := hide hr
  clear hr
  go_wp2_with fail
  go_loopw [9, 29] (fun v9 i wr => ∃ (k : Nat), i = .int .i64 (k : Int) ∧ k ≤ n ∧ Hid (wr.ownsRow w.heap.size 3 1 v9 (shv (l.take k) y lim).length ((shv (l.take k) y lim).map iv)) ∧ Below w.heap.size w wr) (fun _ i _ => n - (intOf i).toNat)
  case atStart => exact ⟨0, rfl, Nat.zero_le _, hide (by simpa [shv] using World.ownsRow_nil _ _ _ _), hb1⟩
  case round =>
    obtain ⟨k, rfl, hk, HO, hbw⟩ := hrel
    by_cases hlt : k < n
    · obtain ⟨b1, o1, x, rfl, hbl, hx, e0⟩ := (HI.out.below hbw).at_ hlt
      have hkn : (k : Int) < (n : Int) := by omega
      have hxr := HV.out.1 x (List.mem_of_getElem? hx)
      unfold inR at hxr
      have hx1 := hxr.1
      have hx2 := hxr.2
      have HX := hide hx
      have hfl : (shv (l.take k) y lim).length ≤ 4096 := by
        have h5 := shv_len (l.take k) y lim
        rw [List.length_take] at h5; omega
      obtain ⟨sm, hsm⟩ : ∃ sm, sm = x + y := ⟨_, rfl⟩
      have hsm' : x + y = sm := hsm.symm
      have hs1 : -4096 ≤ sm := by omega
      have hs2 : sm ≤ 3000000000 := by omega
      have HSM := hide hsm
      clear hxr hx hlt hsm
      by_cases h0 : 0 ≤ sm
      · by_cases h1 : sm < lim
        · go_wp2_with (at_builtin; (refine wpList_append_rd _ rfl (.tmp 44) (.tmp 48) 22 rfl w.heap.size 3 i0 _ 1 8 Try.underlying22 hi0 hz0 hz1 hz2 rfl (by omega) u9 (shv (l.take k) y lim).length ((shv (l.take k) y lim).map iv) rfl (HO.out.alloc _) _ 1 1 [iv sm] rfl rfl (rd_lit _ _ _ _) (one_iv [sm]) (by simp only [maxLen]; omega) (by omega) (by have := hbw.size; simp; omega) ?_); intro v6 w6 hown6 hg6 hat6)
          go_roundw
          case rel =>
            refine ⟨k + 1, by go_num, by omega, hide ?_, bl_grown (bl_alloc hbw _) hg6 (fun j hj => (HO.out.lt j hj).1)⟩
            rw [shv_yes HX.out (by rw [← HSM.out]; exact h0) (by rw [← HSM.out]; exact h1), List.map_append, List.length_append, ← HSM.out]
            exact hown6
          case measure => simp [intOf]; omega
        · go_wp2
          go_roundw
          case rel => exact ⟨k + 1, by go_num, by omega, hide (by rw [shv_no HX.out (by rw [← HSM.out]; exact fun h => h1 h.2)]; exact HO.out), hbw⟩
          case measure => simp [intOf]; omega
      · go_wp2
        go_roundw
        case rel => exact ⟨k + 1, by go_num, by omega, hide (by rw [shv_no HX.out (by rw [← HSM.out]; exact fun h => h0 h.1)]; exact HO.out), hbw⟩
        case measure => simp [intOf]; omega
    · obtain rfl : k = n := by omega
      have hfull : l.take k = l := List.take_of_length_le (by rw [← HN.out]; exact Nat.le_refl _)
      have ho := HO.out
      rw [hfull] at ho
      have HO2 := hide ho
      clear hfull ho
      go_wp2
      go_ret2
      exact ⟨⟨u9, by rw [HR.out]; rfl, by rw [HR.out]; exact HO2.out⟩, hbw⟩
set_option maxHeartbeats 2000000 in
set_option maxRecDepth 100000 in
theorem rshift_any (a : Option Addr) (n c : Nat) (l : List Int) (y lim : Int) (w : World) (h : IsI w a n l) (hc : n ≤ c) (hcm : c ≤ maxLen) :
    Calls Try.prog 26 #[.slice a n c, .int .i64 y, .int .i64 lim] w fun e w' => LRes w.heap.size (shiftM l y lim) e w' ∧ Below w.heap.size w w' := by
  obtain ⟨i0, hi0, hz0, hz1, hz2⟩ := info_parts info_int
  have HI := hide h
  have HN := hide h.1
  clear h
  go_enter Try.func26, Try.ntmps26
  go_wp2_with fail
  refine (rcheck_any a n c l w HI.out hc hcm).mono ?_
  rintro e w1 ⟨rfl, hb1⟩
  by_cases hz : chkL l = 0
  case neg =>
    have hr : shiftM l y lim = ([], chkL l) := by unfold shiftM; rw [if_neg hz]
    obtain ⟨q, hq⟩ : ∃ q, q = chkL l := ⟨_, rfl⟩
    rw [← hq] at hr hz ⊢
    have hqz : ((q : Int) != 0) = true := by rw [bne_iff_ne]; omega
    have HR := hide hr
    clear hr hz hq
    go_wp2
    go_ret2
    exact ⟨⟨_, by rw [HR.out]; rfl, by rw [HR.out]; exact World.ownsRow_nil _ _ _ _⟩, hb1⟩
  have HZ := hide hz
  have h3 := (chkL_zero l).1 hz
  have HV := hide h3.2
  have hn4 : n ≤ 4096 := by rw [HN.out]; exact h3.1
  rw [hz]
  clear hz h3
  by_cases h6 : y < -4096
  · skip
    have hr : shiftM l y lim = ([], 1) := by unfold shiftM; rw [if_pos HZ.out, if_pos (.inl (by unfold badO; simp; omega))]
    have HR := hide hr
    clear hr
    go_wp2
    go_ret2
    exact ⟨⟨_, by rw [HR.out]; rfl, by rw [HR.out]; exact World.ownsRow_nil _ _ _ _⟩, hb1⟩
  by_cases h7 : 4096 < y
  · skip
    have hr : shiftM l y lim = ([], 1) := by unfold shiftM; rw [if_pos HZ.out, if_pos (.inl (by unfold badO; simp; omega))]
    have HR := hide hr
    clear hr
    go_wp2
    go_ret2
    exact ⟨⟨_, by rw [HR.out]; rfl, by rw [HR.out]; exact World.ownsRow_nil _ _ _ _⟩, hb1⟩
  by_cases h4 : lim < 0
  · skip
    have hr : shiftM l y lim = ([], 1) := by unfold shiftM; rw [if_pos HZ.out, if_pos (.inr (.inl h4))]
    have HR := hide hr
    clear hr
    go_wp2
    go_ret2
    exact ⟨⟨_, by rw [HR.out]; rfl, by rw [HR.out]; exact World.ownsRow_nil _ _ _ _⟩, hb1⟩
  by_cases h5 : 2147483647 < lim
  · skip
    have hr : shiftM l y lim = ([], 1) := by unfold shiftM; rw [if_pos HZ.out, if_pos (.inr (.inr h5))]
    have HR := hide hr
    clear hr
    go_wp2
    go_ret2
    exact ⟨⟨_, by rw [HR.out]; rfl, by rw [HR.out]; exact World.ownsRow_nil _ _ _ _⟩, hb1⟩
  have hy1 : -4096 ≤ y := by omega
  have hy2 : y ≤ 4096 := by omega
  have hr : shiftM l y lim = (shv l y lim, 0) := by
    unfold shiftM
    rw [if_pos HZ.out, if_neg]
    unfold badO
    simp
    omega
  have HR := hide hr
  clear hr
  go_wp2_with fail
  go_loopw [9, 33] (fun v9 i wr => ∃ (k : Nat), i = .int .i64 (k : Int) ∧ k ≤ n ∧ Hid (wr.ownsRow w.heap.size 3 1 v9 (shv (l.take k) y lim).length ((shv (l.take k) y lim).map iv)) ∧ Below w.heap.size w wr) (fun _ i _ => n - (intOf i).toNat)
  case atStart => exact ⟨0, rfl, Nat.zero_le _, hide (by simpa [shv] using World.ownsRow_nil _ _ _ _), hb1⟩
  case round =>
    obtain ⟨k, rfl, hk, HO, hbw⟩ := hrel
    by_cases hlt : k < n
    · obtain ⟨b1, o1, x, rfl, hbl, hx, e0⟩ := (HI.out.below hbw).at_ hlt
      have hkn : (k : Int) < (n : Int) := by omega
      have hxr := HV.out.1 x (List.mem_of_getElem? hx)
      unfold inR at hxr
      have hx1 := hxr.1
      have hx2 := hxr.2
      have HX := hide hx
      have hfl : (shv (l.take k) y lim).length ≤ 4096 := by
        have h5 := shv_len (l.take k) y lim
        rw [List.length_take] at h5; omega
      obtain ⟨sm, hsm⟩ : ∃ sm, sm = x + y := ⟨_, rfl⟩
      have hsm' : x + y = sm := hsm.symm
      have hs1 : -4096 ≤ sm := by omega
      have hs2 : sm ≤ 3000000000 := by omega
      have HSM := hide hsm
      clear hxr hx hlt hsm
      by_cases h0 : 0 ≤ sm
      · by_cases h1 : sm < lim
        · go_wp2_with (at_builtin; (refine wpList_append_rd _ rfl (.tmp 48) (.tmp 52) 22 rfl w.heap.size 3 i0 _ 1 8 Try.underlying22 hi0 hz0 hz1 hz2 rfl (by omega) u9 (shv (l.take k) y lim).length ((shv (l.take k) y lim).map iv) rfl (HO.out.alloc _) _ 1 1 [iv sm] rfl rfl (rd_lit _ _ _ _) (one_iv [sm]) (by simp only [maxLen]; omega) (by omega) (by have := hbw.size; simp; omega) ?_); intro v6 w6 hown6 hg6 hat6)
          go_roundw
          case rel =>
            refine ⟨k + 1, by go_num, by omega, hide ?_, bl_grown (bl_alloc hbw _) hg6 (fun j hj => (HO.out.lt j hj).1)⟩
            rw [shv_yes HX.out (by rw [← HSM.out]; exact h0) (by rw [← HSM.out]; exact h1), List.map_append, List.length_append, ← HSM.out]
            exact hown6
          case measure => simp [intOf]; omega
        · go_wp2
          go_roundw
          case rel => exact ⟨k + 1, by go_num, by omega, hide (by rw [shv_no HX.out (by rw [← HSM.out]; exact fun h => h1 h.2)]; exact HO.out), hbw⟩
          case measure => simp [intOf]; omega
      · go_wp2
        go_roundw
        case rel => exact ⟨k + 1, by go_num, by omega, hide (by rw [shv_no HX.out (by rw [← HSM.out]; exact fun h => h0 h.1)]; exact HO.out), hbw⟩
        case measure => simp [intOf]; omega
    · obtain rfl : k = n := by omega
      have hfull : l.take k = l := List.take_of_length_le (by rw [← HN.out]; exact Nat.le_refl _)
      have ho := HO.out
      rw [hfull] at ho
      have HO2 := hide ho
      clear hfull ho
      go_wp2
      go_ret2
      exact ⟨⟨u9, by rw [HR.out]; rfl, by rw [HR.out]; exact HO2.out⟩, hbw⟩
theorem shiftM_len (l : List Int) (y lim : Int) : (shiftM l y lim).1.length ≤ l.length := by
  unfold shiftM
  split
  · split
    · simp
    · exact shv_len l y lim
  · simp
theorem ll_one {w : World} {a : Option Addr} {n c : Nat} {la : List Int} {e : TypeId} (ha : IsI w a n la) (hc : n ≤ c) (hcm : c ≤ maxLen) :
    IsLL (w.alloc (.cells #[.slice a n c] e)) (some ⟨w.heap.size, 0, none⟩) 1 [la] := by
  refine ll_lit (ls := [la]) rfl fun i l hi => ?_
  match i, hi with
  | 0, hi => simp at hi; subst hi; exact ⟨a, c, by rw [← ha.1]; rfl, by rw [← ha.1]; exact hc, hcm, ha.2⟩
  | i + 1, hi => simp at hi
namespace listsShifts
set_option maxHeartbeats 1000000 in
set_option maxRecDepth 100000 in
theorem walk (a : Option Addr) (n c : Nat) (z : List Int) (y lim : Int) (w : World) (w0 : IsRow .i64 w a n c z) (w1 : (Lit.int .i64 y).wf = true) (w2 : (Lit.int .i64 lim).wf = true) :
    Calls Try.prog 9 #[.slice a n c, .int .i64 y, .int .i64 lim] w fun e w' => e = .returned (.bool true) ∧ Below w.heap.size w w' := by
  obtain ⟨la, hia, hc, hcm, _⟩ := w0.ints
  have HA := hide hia
  have HLL := hide (ll_one (e := 22) hia hc hcm)
  have HAN := hide hia.1
  clear hia w0 w1 w2
  go_enter Try.func9, Try.ntmps9
  go_wp2_with fail
  refine (long_any _ 1 1 [la] _ HLL.out (by decide)).mono ?_
  rintro e w1 ⟨rfl, hb1⟩
  have hb0 : Below w.heap.size w w1 := bl_trans (bl_alloc (bl_refl w) _) hb1
  clear hb1
  cases hl : longM [la]
  case true =>
    go_wp2
    go_ret
    exact ⟨rfl, hb0⟩
  have hla : la.length ≤ 100 := by unfold longM at hl; simp at hl; omega
  clear hl
  go_wp2_with fail
  refine (shift_any a n c la y lim w1 (HA.out.below hb0) hc hcm).mono ?_
  rintro e w2 ⟨hr, hb2⟩
  have hq := shiftM_len la y lim
  obtain ⟨u, hu⟩ : ∃ u, u = shiftM la y lim := ⟨_, rfl⟩
  rw [← hu] at hr hq
  have HU := hide hu
  obtain ⟨a2, c2, rfl, hc2, hm2, hi2⟩ := hr.open_
  have HI2 := hide hi2
  have hb02 := hb0.trans (hb2.mono hb0.size)
  obtain ⟨un, hun⟩ : ∃ un, un = u.1.length := ⟨_, rfl⟩
  obtain ⟨ue, hue⟩ : ∃ ue, ue = u.2 := ⟨_, rfl⟩
  rw [← hun] at hq hc2 HI2 ⊢
  rw [← hue]
  have HUN := hide hun
  have HUE := hide hue
  clear hr hu hi2 hb2 hun hue
  go_wp2_with fail
  refine (rshift_any a n c la y lim w2 (HA.out.below hb02) hc hcm).mono ?_
  rintro e w3 ⟨hr, hb3⟩
  rw [← HU.out] at hr
  obtain ⟨a3, c3, rfl, hc3, hm3, hi3⟩ := hr.open_
  have hb03 := hb02.trans (hb3.mono hb02.size)
  rw [← HUN.out] at hc3 hi3 ⊢
  rw [← HUE.out]
  have HI3 := hide hi3
  have HI2' := hide (HI2.out.below hb3)
  clear HI2 hr hi3 hb3
  go_wp2_with fail
  refine (same_same a2 a3 un c2 c3 u.1 w3 HI2'.out HI3.out hc2 hc3 (by omega)).mono ?_
  rintro e w8 ⟨rfl, hb8⟩
  go_wp2_with fail
  refine (awake_any _).mono ?_
  rintro e w11 ⟨rfl, hb11⟩
  go_wp2
  go_ret
  exact ⟨rfl, hb03.trans ((bl_trans hb8 hb11).mono hb03.size)⟩
end listsShifts
theorem long_all {ls : List (List Int)} (h : longM ls = false) : (∀ l ∈ ls, l.length ≤ 100) ∧ ls.length ≤ 12 := by
  unfold longM at h
  simp at h
  exact ⟨fun l hl => by have := h.1 l hl; omega, by omega⟩
namespace listsMerges
set_option maxHeartbeats 1000000 in
set_option maxRecDepth 100000 in
theorem walk (a : Option Addr) (n c : Nat) (ls : List (List Int)) (w : World) (w0 : IsLL w a n ls ∧ n ≤ 9223372036854775807) :
    Calls Try.prog 5 #[.slice a n c] w fun e w' => e = .returned (.bool true) ∧ Below w.heap.size w w' := by
  have HLL := hide w0.1
  have hnb := w0.2
  have HAN := hide w0.1.1
  clear w0
  go_enter Try.func5, Try.ntmps5
  go_wp2_with fail
  refine (long_any a n c ls w HLL.out hnb).mono ?_
  rintro e w1 ⟨rfl, hb0⟩
  cases hl : longM ls
  case true =>
    go_wp2
    go_ret
    exact ⟨rfl, hb0⟩
  have hll := long_all hl
  have HLEN := hide hll.1
  have hn12 : n ≤ 12 := by rw [HAN.out]; exact hll.2
  clear hl hll
  go_wp2_with fail
  refine (merge_any a n c ls w1 (HLL.out.below hb0) (by omega)).mono ?_
  rintro e w2 ⟨hr, hb2⟩
  have hq := mergeM_len ls
  obtain ⟨u, hu⟩ : ∃ u, u = mergeM ls := ⟨_, rfl⟩
  rw [← hu] at hr hq
  have HU := hide hu
  obtain ⟨a2, c2, rfl, hc2, hm2, hi2⟩ := hr.open_
  have HI2 := hide hi2
  have hb02 := hb0.trans (hb2.mono hb0.size)
  obtain ⟨un, hun⟩ : ∃ un, un = u.1.length := ⟨_, rfl⟩
  obtain ⟨ue, hue⟩ : ∃ ue, ue = u.2 := ⟨_, rfl⟩
  rw [← hun] at hq hc2 HI2 ⊢
  rw [← hue]
  have HUN := hide hun
  have HUE := hide hue
  clear hr hu hi2 hb2 hun hue
  go_wp2_with fail
  refine (rmerge_any a n c ls w2 (HLL.out.below hb02) (by omega) HLEN.out).mono ?_
  rintro e w3 ⟨hr, hb3⟩
  rw [← HU.out] at hr
  obtain ⟨a3, c3, rfl, hc3, hm3, hi3⟩ := hr.open_
  have hb03 := hb02.trans (hb3.mono hb02.size)
  rw [← HUN.out] at hc3 hi3 ⊢
  rw [← HUE.out]
  have HI3 := hide hi3
  have HI2' := hide (HI2.out.below hb3)
  clear HI2 hr hi3 hb3
  go_wp2_with fail
  refine (same_same a2 a3 un c2 c3 u.1 w3 HI2'.out HI3.out hc2 hc3 (by omega)).mono ?_
  rintro e w8 ⟨rfl, hb8⟩
  go_wp2_with fail
  refine (awake_any _).mono ?_
  rintro e w11 ⟨rfl, hb11⟩
  go_wp2
  go_ret
  exact ⟨rfl, hb03.trans ((bl_trans hb8 hb11).mono hb03.size)⟩
end listsMerges
end Go.Proofs.Ytjiijhbkbmnhbaa
