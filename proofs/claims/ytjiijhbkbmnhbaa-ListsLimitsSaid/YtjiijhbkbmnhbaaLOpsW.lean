/- The walks of long, Intersect, Subtract, Shift and of the reference's Has, Choose, Shift. -/
import Derived.Test.YtjiijhbkbmnhbaaLL1W
namespace Go.Proofs.Ytjiijhbkbmnhbaa
open Go.RowKit
set_option linter.unusedVariables false
set_option linter.unusedSimpArgs false
def longM (ls : List (List Int)) : Bool := ls.any (fun l => decide (100 < l.length)) || decide (12 < ls.length)
set_option maxHeartbeats 1000000 in
set_option maxRecDepth 100000 in
theorem long_any (a : Option Addr) (n cap : Nat) (ls : List (List Int)) (w : World) (h : IsLL w a n ls) (hn : n ≤ 9223372036854775807) :
    Calls Try.prog 17 #[.slice a n cap] w fun e w' => e = .returned (.bool (longM ls)) ∧ Below w.heap.size w w' := by
  have HI := hide h
  have HN := hide h.1
  clear h
  go_enter Try.func17, Try.ntmps17
  go_wp2_with fail
  go_loopw [7] (fun i wr => ∃ k : Nat, i = .int .i64 (k : Int) ∧ k ≤ n ∧ Hid (∀ l ∈ ls.take k, ¬ 100 < l.length) ∧ Below w.heap.size w wr) (fun i _ => n - (intOf i).toNat)
  case atStart => exact ⟨0, rfl, Nat.zero_le _, hide (fun l h => by simp at h), bl_refl w⟩
  case round =>
    obtain ⟨k, rfl, hk, HC, hb⟩ := hrel
    by_cases hlt : k < n
    · obtain ⟨b, o, l, a', c, rfl, hbl, hx, e0, hlc, hcm, hi⟩ := (HI.out.below hb).at_ hlt
      have hkn : (k : Int) < (n : Int) := by omega
      have HX := hide hx
      obtain ⟨m, hm⟩ : ∃ m, m = l.length := ⟨_, rfl⟩
      rw [← hm] at e0
      have HM := hide hm
      clear hx hi hlt hm
      by_cases h1 : 100 < m
      · have h1' : (100 : Int) < (m : Int) := by omega
        have hr : longM ls = true := by
          unfold longM
          rw [List.any_eq_true.2 ⟨l, List.mem_of_getElem? HX.out, by rw [← HM.out]; simpa using h1⟩]; rfl
        have HR := hide hr
        clear hr
        go_wp2
        go_ret
        exact ⟨by rw [HR.out]; rfl, hb⟩
      · have h1' : ¬ (100 : Int) < (m : Int) := by omega
        go_wp2
        go_roundw
        case rel =>
          refine ⟨k + 1, by go_num, by omega, hide fun y hy => ?_, hb⟩
          rw [take_snoc' ls k l HX.out] at hy
          rcases List.mem_append.1 hy with h | h
          · exact HC.out y h
          · simp at h; subst h; rw [← HM.out]; exact h1
        case measure => simp [intOf]; omega
    · obtain rfl : k = n := by omega
      have hr : longM ls = decide (12 < (k : Int)) := by
        have h2 := HC.out
        rw [List.take_of_length_le (by rw [← HN.out]; exact Nat.le_refl _)] at h2
        have h3 : ls.any (fun l => decide (100 < l.length)) = false := by
          rw [List.any_eq_false]
          intro l hl
          have := h2 l hl
          simpa using this
        unfold longM
        rw [h3, ← HN.out, Bool.false_or, decide_eq_decide]
        omega
      have HR := hide hr
      clear hr hlt
      go_wp2
      go_ret
      exact ⟨by rw [HR.out]; first | rfl | simp, hb⟩
def interM (la lb : List Int) : List Int × Nat := if chkA [la, lb] = 0 then (both la lb, 0) else ([], chkA [la, lb])
def subM (la lb : List Int) : List Int × Nat := if chkA [la, lb] = 0 then (less la lb, 0) else ([], chkA [la, lb])
theorem chk_two {la lb : List Int} (h : chkA [la, lb] = 0) : (la.length ≤ 4096 ∧ asc la) ∧ lb.length ≤ 4096 ∧ asc lb := by
  have h1 := (chkA_zero [la, lb]).1 h
  have h2 := (chkL_zero la).1 (h1 la (by simp))
  have h3 := (chkL_zero lb).1 (h1 lb (by simp))
  exact ⟨⟨h2.1, h2.2.2⟩, h3.1, h3.2.2⟩
set_option maxHeartbeats 1000000 in
set_option maxRecDepth 100000 in
theorem inter_any (a b : Option Addr) (n c m d : Nat) (la lb : List Int) (w : World) (ha : IsI w a n la) (hb : IsI w b m lb) (hc : n ≤ c) (hd : m ≤ d) (hcm : c ≤ maxLen) (hdm : d ≤ maxLen) :
    Calls Try.prog 22 #[.slice a n c, .slice b m d] w fun e w' => LRes w.heap.size (interM la lb) e w' ∧ Below w.heap.size w w' := by
  have HL := hide (ll_two (e := 22) ha hb hc hd hcm hdm)
  have HA := hide ha
  have HB := hide hb
  clear ha hb
  go_enter Try.func22, Try.ntmps22
  go_wp2_with fail
  refine (all_any _ 2 2 [la, lb] _ HL.out (by decide)).mono ?_
  rintro e w1 ⟨rfl, hb1⟩
  have hb0 : Below w.heap.size w w1 := bl_trans (bl_alloc (bl_refl w) _) hb1
  by_cases hz : chkA [la, lb] = 0
  · obtain ⟨⟨h1, h2⟩, h3, h4⟩ := chk_two hz
    rw [← HA.out.1] at h1
    rw [← HB.out.1] at h3
    have hr : interM la lb = (both la lb, 0) := by unfold interM; rw [if_pos hz]
    rw [hz]
    have HR := hide hr
    have H2 := hide h2
    have H4 := hide h4
    clear hz hr h2 h4 hb1
    go_wp2_with fail
    refine (split_any a b n c m d la lb w1 (HA.out.below hb0) (HB.out.below hb0) hc hd hdm H2.out H4.out (by omega) (by omega)).mono ?_
    rintro e w2 ⟨v1, v2, rfl, hown1, hown2, hb2⟩
    have HO := hide (own_base hown1 hb0.size)
    have hb02 := hb0.trans (hb2.mono hb0.size)
    clear hown1 hown2
    go_wp2
    go_ret2
    exact ⟨⟨v1, by rw [HR.out]; rfl, by rw [HR.out]; exact HO.out⟩, hb02⟩
  · have hr : interM la lb = ([], chkA [la, lb]) := by unfold interM; rw [if_neg hz]
    obtain ⟨q, hq⟩ : ∃ q, q = chkA [la, lb] := ⟨_, rfl⟩
    rw [← hq] at hr hz ⊢
    have hqz : ((q : Int) != 0) = true := by rw [bne_iff_ne]; omega
    have HR := hide hr
    clear hr hz hq hb1
    go_wp2
    go_ret2
    exact ⟨⟨_, by rw [HR.out]; rfl, by rw [HR.out]; exact World.ownsRow_nil _ _ _ _⟩, hb0⟩
set_option maxHeartbeats 1000000 in
set_option maxRecDepth 100000 in
theorem sub_any (a b : Option Addr) (n c m d : Nat) (la lb : List Int) (w : World) (ha : IsI w a n la) (hb : IsI w b m lb) (hc : n ≤ c) (hd : m ≤ d) (hcm : c ≤ maxLen) (hdm : d ≤ maxLen) :
    Calls Try.prog 24 #[.slice a n c, .slice b m d] w fun e w' => LRes w.heap.size (subM la lb) e w' ∧ Below w.heap.size w w' := by
  have HL := hide (ll_two (e := 22) ha hb hc hd hcm hdm)
  have HA := hide ha
  have HB := hide hb
  clear ha hb
  go_enter Try.func24, Try.ntmps24
  go_wp2_with fail
  refine (all_any _ 2 2 [la, lb] _ HL.out (by decide)).mono ?_
  rintro e w1 ⟨rfl, hb1⟩
  have hb0 : Below w.heap.size w w1 := bl_trans (bl_alloc (bl_refl w) _) hb1
  by_cases hz : chkA [la, lb] = 0
  · obtain ⟨⟨h1, h2⟩, h3, h4⟩ := chk_two hz
    rw [← HA.out.1] at h1
    rw [← HB.out.1] at h3
    have hr : subM la lb = (less la lb, 0) := by unfold subM; rw [if_pos hz]
    rw [hz]
    have HR := hide hr
    have H2 := hide h2
    have H4 := hide h4
    clear hz hr h2 h4 hb1
    go_wp2_with fail
    refine (split_any a b n c m d la lb w1 (HA.out.below hb0) (HB.out.below hb0) hc hd hdm H2.out H4.out (by omega) (by omega)).mono ?_
    rintro e w2 ⟨v1, v2, rfl, hown1, hown2, hb2⟩
    have HO := hide (own_base hown2 hb0.size)
    have hb02 := hb0.trans (hb2.mono hb0.size)
    clear hown1 hown2
    go_wp2
    go_ret2
    exact ⟨⟨v2, by rw [HR.out]; rfl, by rw [HR.out]; exact HO.out⟩, hb02⟩
  · have hr : subM la lb = ([], chkA [la, lb]) := by unfold subM; rw [if_neg hz]
    obtain ⟨q, hq⟩ : ∃ q, q = chkA [la, lb] := ⟨_, rfl⟩
    rw [← hq] at hr hz ⊢
    have hqz : ((q : Int) != 0) = true := by rw [bne_iff_ne]; omega
    have HR := hide hr
    clear hr hz hq hb1
    go_wp2
    go_ret2
    exact ⟨⟨_, by rw [HR.out]; rfl, by rw [HR.out]; exact World.ownsRow_nil _ _ _ _⟩, hb0⟩
/-! The reference. -/
set_option maxRecDepth 100000 in
theorem has_any (a : Option Addr) (n c : Nat) (l : List Int) (x : Int) (w : World) (h : IsI w a n l) (hn : n ≤ 1000000000) :
    Calls Try.prog 27 #[.slice a n c, .int .i64 x] w fun e w' => e = .returned (.bool (decide (x ∈ l))) ∧ Below w.heap.size w w' := by
  have HI := hide h
  have HN := hide h.1
  clear h
  obtain ⟨r, hr⟩ : ∃ r, r = decide (x ∈ l) := ⟨_, rfl⟩
  rw [← hr]
  have HR := hide hr
  clear hr
  go_enter Try.func27, Try.ntmps27
  go_wp2_with fail
  go_loopw [9] (fun i wr => ∃ k : Nat, i = .int .i64 (k : Int) ∧ k ≤ n ∧ Hid (¬ x ∈ l.take k) ∧ Below w.heap.size w wr) (fun i _ => n - (intOf i).toNat)
  case atStart => exact ⟨0, rfl, Nat.zero_le _, hide (by simp), bl_refl w⟩
  case round =>
    obtain ⟨k, rfl, hk, HC, hb⟩ := hrel
    by_cases hlt : k < n
    · obtain ⟨b, o, y, rfl, hbl, hy, e0⟩ := (HI.out.below hb).at_ hlt
      have hkn : (k : Int) < (n : Int) := by omega
      have HY := hide hy
      clear hy hlt
      by_cases hyx : y = x
      · subst hyx
        have hrt : r = true := by rw [HR.out]; simpa using List.mem_of_getElem? HY.out
        subst hrt
        go_wp2
        go_ret
        exact ⟨rfl, hb⟩
      · have hyx' : (y == x) = false := by simpa using hyx
        go_wp2
        go_roundw
        case rel =>
          refine ⟨k + 1, by go_num, by omega, hide fun h => ?_, hb⟩
          rw [take_snoc' l k y HY.out] at h
          rcases List.mem_append.1 h with h | h
          · exact HC.out h
          · simp at h; exact hyx h.symm
        case measure => simp [intOf]; omega
    · obtain rfl : k = n := by omega
      have hrf : r = false := by
        rw [HR.out, decide_eq_false_iff_not]
        have := HC.out
        rwa [List.take_of_length_le (by rw [← HN.out]; exact Nat.le_refl _)] at this
      subst hrf
      go_wp2
      go_ret
      exact ⟨rfl, hb⟩
def chooseM (la lb : List Int) (i : Bool) : List Int × Nat := if chkA [la, lb] = 0 then (la.filter (fun x => decide (x ∈ lb) == i), 0) else ([], chkA [la, lb])
theorem choose_t (la lb : List Int) : chooseM la lb true = interM la lb := by unfold chooseM interM both; simp
theorem choose_f (la lb : List Int) : chooseM la lb false = subM la lb := by unfold chooseM subM less; simp
theorem filt_yes {l : List Int} {k : Nat} {x : Int} {p : Int → Bool} (hx : l[k]? = some x) (hp : p x = true) : (l.take (k + 1)).filter p = (l.take k).filter p ++ [x] := by
  rw [List.take_add_one, hx, List.filter_append]; simp [hp]
theorem filt_no {l : List Int} {k : Nat} {x : Int} {p : Int → Bool} (hx : l[k]? = some x) (hp : p x = false) : (l.take (k + 1)).filter p = (l.take k).filter p := by
  rw [List.take_add_one, hx, List.filter_append]; simp [hp]
set_option maxHeartbeats 1000000 in
set_option maxRecDepth 100000 in
theorem choose_any (a b : Option Addr) (n c m d : Nat) (la lb : List Int) (i : Bool) (w : World) (ha : IsI w a n la) (hb : IsI w b m lb) (hc : n ≤ c) (hd : m ≤ d) (hcm : c ≤ maxLen) (hdm : d ≤ maxLen) :
    Calls Try.prog 23 #[.slice a n c, .slice b m d, .bool i] w fun e w' => LRes w.heap.size (chooseM la lb i) e w' ∧ Below w.heap.size w w' := by
  obtain ⟨i0, hi0, hz0, hz1, hz2⟩ := info_parts info_int
  have HL := hide (ll_two (e := 22) ha hb hc hd hcm hdm)
  have HA := hide ha
  have HB := hide hb
  have HN := hide ha.1
  clear ha hb
  go_enter Try.func23, Try.ntmps23
  go_wp2_with fail
  refine (rall_any _ 2 2 [la, lb] _ HL.out (by decide)).mono ?_
  rintro e w1 ⟨rfl, hb1⟩
  have hb0 : Below w.heap.size w w1 := bl_trans (bl_alloc (bl_refl w) _) hb1
  by_cases hz : chkA [la, lb] = 0
  case neg =>
    have hr : chooseM la lb i = ([], chkA [la, lb]) := by unfold chooseM; rw [if_neg hz]
    obtain ⟨q, hq⟩ : ∃ q, q = chkA [la, lb] := ⟨_, rfl⟩
    rw [← hq] at hr hz ⊢
    have hqz : ((q : Int) != 0) = true := by rw [bne_iff_ne]; omega
    have HR := hide hr
    clear hr hz hq hb1
    go_wp2
    go_ret2
    exact ⟨⟨_, by rw [HR.out]; rfl, by rw [HR.out]; exact World.ownsRow_nil _ _ _ _⟩, hb0⟩
  obtain ⟨⟨h1, h2⟩, h3, h4⟩ := chk_two hz
  rw [← HA.out.1] at h1
  rw [← HB.out.1] at h3
  have hr : chooseM la lb i = (la.filter (fun x => decide (x ∈ lb) == i), 0) := by unfold chooseM; rw [if_pos hz]
  rw [hz]
  have HR := hide hr
  obtain ⟨p, hp⟩ : ∃ p : Int → Bool, p = fun x => decide (x ∈ lb) == i := ⟨_, rfl⟩
  have HP := hide hp
  clear hz hr h2 h4 hb1 hp
  go_wp2_with fail
  go_loopw [9, 21] (fun v9 j wr => ∃ (k : Nat), j = .int .i64 (k : Int) ∧ k ≤ n ∧ Hid (wr.ownsRow w.heap.size 3 1 v9 ((la.take k).filter p).length (((la.take k).filter p).map iv)) ∧ Below w.heap.size w wr) (fun _ j _ => n - (intOf j).toNat)
  case atStart => exact ⟨0, rfl, Nat.zero_le _, hide (by simpa using World.ownsRow_nil _ _ _ _), hb0⟩
  case round =>
    obtain ⟨k, rfl, hk, HO, hbw⟩ := hrel
    by_cases hlt : k < n
    · obtain ⟨b1, o1, x, rfl, hbl, hx, e0⟩ := (HA.out.below hbw).at_ hlt
      have hkn : (k : Int) < (n : Int) := by omega
      have HX := hide hx
      have hfl : ((la.take k).filter p).length ≤ 4096 := by
        have h5 := List.length_filter_le p (la.take k)
        rw [List.length_take] at h5; omega
      clear hx hlt
      go_wp2_with fail
      refine (has_any b m d lb x wr (HB.out.below hbw) (by omega)).mono ?_
      rintro e w2 ⟨rfl, hb2⟩
      have hpx : (decide (x ∈ lb) == i) = p x := by rw [HP.out]
      have hb02 := hbw.trans (hb2.mono hbw.size)
      obtain ⟨hh, hhe⟩ : ∃ hh, hh = decide (x ∈ lb) := ⟨_, rfl⟩
      rw [← hhe] at hpx ⊢
      clear hhe
      cases hpv : p x
      · rw [hpv] at hpx
        have HPV := hide hpv
        clear hpv
        go_wp2
        go_roundw
        case rel => exact ⟨k + 1, by go_num, by omega, hide (by rw [filt_no HX.out HPV.out]; exact own_below HO.out hb2), hb02⟩
        case measure => simp [intOf]; omega
      · rw [hpv] at hpx
        have HPV := hide hpv
        clear hpv
        go_wp2_with (at_builtin; (refine wpList_append_rd _ rfl (.tmp 30) (.tmp 32) 22 rfl w.heap.size 3 i0 _ 1 8 Try.underlying22 hi0 hz0 hz1 hz2 rfl (by omega) u9 ((la.take k).filter p).length (((la.take k).filter p).map iv) rfl ((own_below HO.out hb2).alloc _) _ 1 1 [iv x] rfl rfl (rd_lit _ _ _ _) (one_iv [x]) (by simp only [maxLen]; omega) (by omega) (by have := hb02.size; simp; omega) ?_); intro v6 w6 hown6 hg6 hat6)
        go_roundw
        case rel =>
          refine ⟨k + 1, by go_num, by omega, hide ?_, bl_grown (bl_alloc hb02 _) hg6 (fun j hj => (HO.out.lt j hj).1)⟩
          rw [filt_yes HX.out HPV.out, List.map_append, List.length_append]
          exact hown6
        case measure => simp [intOf]; omega
    · obtain rfl : k = n := by omega
      have hfull : la.take k = la := List.take_of_length_le (by rw [← HN.out]; exact Nat.le_refl _)
      have ho := HO.out
      rw [hfull, HP.out] at ho
      have HO2 := hide ho
      clear hfull ho
      go_wp2
      go_ret2
      exact ⟨⟨u9, by rw [HR.out]; rfl, by rw [HR.out]; exact HO2.out⟩, hbw⟩
end Go.Proofs.Ytjiijhbkbmnhbaa
