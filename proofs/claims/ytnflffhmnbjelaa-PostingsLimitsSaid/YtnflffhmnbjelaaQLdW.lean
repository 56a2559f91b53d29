/- The walks of the laws PostingsWalks and PostingsLimits. -/
import Derived.Test.YtnflffhmnbjelaaQLcW
namespace Go.Proofs.Ytnflffhmnbjelaa
open Go.RowKit
set_option linter.unusedVariables false
set_option linter.unusedSimpArgs false
namespace postingsWalks
set_option maxHeartbeats 4000000 in
set_option maxRecDepth 100000 in
theorem walk (a : Option Addr) (n cap : Nat) (zz : List Int) (w : World) (w0 : IsRow .i64 w a n cap zz) :
    Calls Try.prog 6 #[.slice a n cap] w fun e w' => e = .returned (.bool true) ∧ Below w.heap.size w w' := by
  obtain ⟨z, hi, hc, hm, hz⟩ := w0.ints
  have HI := hide hi
  have HZ := hide hz
  clear hi w0 hz
  go_enter Try.func6, Try.ntmps6
  go_wp2_with fail
  refine (build_any a n cap z w HI.out HZ.out).mono ?_
  rintro e w1 ⟨h1, h2, hb1⟩
  have HB1 := hide hb1
  by_cases h0 : chkL z = 0
  · obtain ⟨g, rfl, hg, hs⟩ := h2 h0
    have HS := hide hs
    clear h1 h2 hb1 hs hg
    by_cases h3 : 200 < n
    · have h3' : (200 : Int) < (n : Int) := by omega
      go_wp2
      go_ret
      exact ⟨rfl, HB1.out⟩
    have h3' : ¬ (200 : Int) < (n : Int) := by omega
    have HOK := hide (okQ_of h0)
    have HSZ := hide (szQ_of HOK.out (by rw [natsOf_length, ← HI.out.1]; omega))
    obtain ⟨l, hl⟩ : ∃ l, l = natsOf z := ⟨_, rfl⟩
    have hln : l.length = n := by rw [hl, natsOf_length, ← HI.out.1]
    have HLN := hide hln
    rw [← hl] at HS HOK HSZ
    clear h0 hln hl
    go_wp2_with fail
    go_loopw [5, 6] (fun av iv' wr => ∃ (i : Nat) (q : Int), iv' = .int .i64 (i : Int) ∧ av = .int .i64 q ∧ i ≤ n + 1 ∧ 0 ≤ q ∧ q ≤ 2147483648 ∧ Hid (∀ j x, j < i → l[j]? = some x → (x : Int) < q) ∧ Hid (∀ j x, i ≤ j → l[j]? = some x → q ≤ (x : Int)) ∧ Hid (Below w.heap.size w wr) ∧ Hid (LstS wr g l)) (fun _ kv _ => n + 1 - (intOf kv).toNat)
    case atStart => exact ⟨0, 0, rfl, rfl, by omega, by omega, by omega, hide (fun j x h => absurd h (by omega)), hide (fun j x _ _ => by omega), HB1, HS⟩
    case round =>
      obtain ⟨i, q, rfl, rfl, hin, hq0, hq1, HLT, HGE, HB, HSr⟩ := hrel
      by_cases hi1 : i ≤ n
      · have hii : (i : Int) ≤ (n : Int) := by omega
        by_cases hi2 : i < n
        · obtain ⟨x, hx⟩ : ∃ x, l[i]? = some x := ⟨_, List.getElem?_eq_getElem (by rw [HLN.out]; exact hi2)⟩
          have hqx := HGE.out i x (Nat.le_refl _) hx
          have hx31 : x < 2147483648 := HOK.out.2 x (List.mem_of_getElem? hx)
          have hr1 : rankQ l q = i := rankQ_eq HLT.out (.inr ⟨x, hx, hqx⟩)
          have hr2 : rankQ l (x : Int) = i := rankQ_eq (fun j y hj hy => by have := okQ_lt HOK.out hy hx hj; omega) (.inr ⟨x, hx, Int.le_refl _⟩)
          have hlt2 : ∀ j y, j < i + 1 → l[j]? = some y → (y : Int) < (x : Int) + 1 := fun j y hj hy => by
            by_cases hji : j = i
            · rw [hji, hx] at hy
              injection hy with hy
              omega
            · have := okQ_lt HOK.out hy hx (by omega)
              omega
          have hge2 : ∀ j y, i + 1 ≤ j → l[j]? = some y → (x : Int) + 1 ≤ (y : Int) := fun j y hj hy => by
            have := okQ_lt HOK.out hx hy (by omega)
            omega
          have hr3 : rankQ l ((x : Int) + 1) = i + 1 := by
            refine rankQ_eq hlt2 ?_
            by_cases h : i + 1 = l.length
            · exact .inl h
            · obtain ⟨y, hy⟩ : ∃ y, l[i + 1]? = some y := ⟨_, List.getElem?_eq_getElem (by rw [HLN.out] at h ⊢; omega)⟩
              exact .inr ⟨y, hy, hge2 _ _ (Nat.le_refl _) hy⟩
          have HV := hide (seekV_at hr1 hx)
          have HX := hide hx
          have HR2 := hide hr2
          have HR3 := hide hr3
          have HLT2 := hide hlt2
          have HGE2 := hide hge2
          have hilt : (i : Int) < (n : Int) := by omega
          clear hx hr1 hr2 hr3 hlt2 hge2
          go_wp2_with fail
          refine (seek_any g l q wr HSr.out HOK.out HSZ.out).mono ?_
          rintro e w2 ⟨rfl, hb2⟩
          rw [HV.out]
          have HB2 := hide (HB.out.trans (hb2.mono HB.out.size))
          have HS2 := hide (HSr.out.below hb2)
          clear hb2
          go_wp2_with fail
          refine (at_any g l (i : Int) w2 HS2.out HOK.out HSZ.out).mono ?_
          rintro e w3 ⟨hres, hb3⟩
          obtain rfl := hres.2 i x rfl HX.out
          have HB3 := hide (HB2.out.trans (hb3.mono HB2.out.size))
          have HS3 := hide (HS2.out.below hb3)
          clear hb3 hres
          go_wp2_with fail
          refine (rank_any g l (x : Int) w3 HS3.out HOK.out HSZ.out).mono ?_
          rintro e w4 ⟨rfl, hb4⟩
          rw [HR2.out]
          have HB4 := hide (HB3.out.trans (hb4.mono HB3.out.size))
          have HS4 := hide (HS3.out.below hb4)
          clear hb4
          go_wp2_with fail
          refine (rank_any g l ((x : Int) + 1) w4 HS4.out HOK.out HSZ.out).mono ?_
          rintro e w5 ⟨rfl, hb5⟩
          rw [HR3.out]
          have HB5 := hide (HB4.out.trans (hb5.mono HB4.out.size))
          have HS5 := hide (HS4.out.below hb5)
          have ei : ((i + 1 : Nat) : Int) = (i : Int) + 1 := by omega
          rw [ei]
          clear hb5 ei
          go_wp2
          go_roundw
          case rel => exact ⟨i + 1, (x : Int) + 1, by go_num, rfl, by omega, by omega, by omega, HLT2, HGE2, HB5, HS5⟩
          case measure => simp [intOf]; omega
        · obtain rfl : i = n := by omega
          have hr1 : rankQ l q = l.length := rankQ_eq (fun j x hj hx => HLT.out j x (by rw [HLN.out] at hj; exact hj) hx) (.inl rfl)
          have HV := hide (seekV_no hr1)
          rw [HLN.out] at HV
          clear hr1
          go_wp2_with fail
          refine (seek_any g l q wr HSr.out HOK.out HSZ.out).mono ?_
          rintro e w2 ⟨rfl, hb2⟩
          rw [HV.out]
          have HB2 := hide (HB.out.trans (hb2.mono HB.out.size))
          have HS2 := hide (HSr.out.below hb2)
          have HLT2 := hide (show ∀ j x, j < i + 1 → l[j]? = some x → (x : Int) < q from fun j x _ hx => HLT.out j x (by have := (List.getElem?_eq_some_iff.1 hx).1; rw [HLN.out] at this; exact this) hx)
          have HGE2 := hide (show ∀ j x, i + 1 ≤ j → l[j]? = some x → q ≤ (x : Int) from fun j x hj hx => HGE.out j x (by omega) hx)
          clear hb2
          go_wp2
          go_roundw
          case rel => exact ⟨i + 1, q, by go_num, rfl, by omega, by omega, by omega, HLT2, HGE2, HB2, HS2⟩
          case measure => simp [intOf]
      · obtain rfl : i = n + 1 := by omega
        have hii : ¬ ((n + 1 : Nat) : Int) ≤ (n : Int) := by omega
        go_wp2_with fail
        refine (awake_any wr).mono ?_
        rintro e w5 ⟨rfl, hb5⟩
        have HB5 := hide (HB.out.trans (hb5.mono HB.out.size))
        clear hb5
        go_wp2
        go_ret
        exact ⟨rfl, HB5.out⟩
  · obtain rfl := h1 h0
    obtain ⟨q, hq⟩ : ∃ q : Int, q = ((chkL z : Nat) : Int) := ⟨_, rfl⟩
    have h5 : q ≠ 0 := by omega
    rw [← hq]
    have hqb : (q == 0) = false := by simpa using h5
    have hqc : (q != 0) = true := by simpa using h5
    clear h1 h2 hb1 h0 hq
    by_cases h3 : 200 < n
    · have h3' : (200 : Int) < (n : Int) := by omega
      go_wp2
      go_ret
      exact ⟨rfl, HB1.out⟩
    have h3' : ¬ (200 : Int) < (n : Int) := by omega
    go_wp2
    go_ret
    exact ⟨rfl, HB1.out⟩
end postingsWalks
def lmM (n m : Nat) : List Int := (List.range n).map fun i => ((i * m : Nat) : Int)
theorem lmM_chk {n m : Nat} (hm : 0 < m) (hm2 : m ≤ 256) : (n ≤ 4096 → chkL (lmM n m) = 0) ∧ (4096 < n → chkL (lmM n m) = 2) := by
  refine ⟨fun h => (chkL_zero _).2 ⟨by simpa [lmM] using h, fun x hx => ?_, ?_⟩, fun h => by unfold chkL; rw [if_pos (by simpa [lmM] using h)]⟩
  · obtain ⟨i, hi, rfl⟩ := List.mem_map.1 hx
    have hi := List.mem_range.1 hi
    have h3 : i * m ≤ 4096 * 256 := Nat.mul_le_mul (by omega) hm2
    show 0 ≤ _ ∧ _ ≤ _
    omega
  · show List.Pairwise _ _
    unfold lmM
    rw [List.pairwise_map]
    refine List.Pairwise.imp ?_ List.pairwise_lt_range
    intro a b hab
    have := Nat.mul_lt_mul_of_pos_right hab hm
    omega
namespace postingsLimits
set_option maxHeartbeats 4000000 in
set_option maxRecDepth 100000 in
theorem walk (x s : Int) (w : World) (w0 : (Lit.int .i64 x).wf = true) (w1 : (Lit.int .u8 s).wf = true) :
    Calls Try.prog 4 #[.int .i64 x, .int .u8 s] w fun e w' => e = .returned (.bool true) ∧ Below w.heap.size w w' := by
  have hs := bounds_u8 w1
  obtain ⟨i2, hi2, hz0, hz1, hz2⟩ := info_parts info_int
  clear w0 w1
  go_enter Try.func4, Try.ntmps4
  by_cases h1 : x < 0
  · go_wp2
    go_ret
    exact ⟨rfl, bl_refl _⟩
  by_cases h2 : 4097 < x
  · go_wp2
    go_ret
    exact ⟨rfl, bl_refl _⟩
  obtain ⟨n, rfl⟩ := Int.eq_ofNat_of_zero_le (show 0 ≤ x by omega)
  obtain ⟨m, hm⟩ := Int.eq_ofNat_of_zero_le (show 0 ≤ 1 + s by omega)
  have hm1 : 0 < m := by omega
  have hm2 : m ≤ 256 := by omega
  have hn : n ≤ 4097 := by omega
  have HCK := hide (lmM_chk (n := n) hm1 hm2)
  have ews : IntKind.i64.wrap s = s := by rw [IntKind.wrap_i64]; omega
  go_wp2_with (at_make; go_loud (refine wpList_make_full _ rfl (.tmp 15) (.tmp 15) 22 rfl w.heap.size 3 i2 _ 1 Try.underlying22 hi2 hz0 hz1 .i64 .i64 _ _ n rfl rfl rfl rfl (by rw [hz2]; omega) (by simp only [maxLen]; omega) (Nat.le_refl _) ?_); intro w2 hown hg1; have hb2 : Below w.heap.size w w2 := bl_grown (bl_refl w) hg1 (fun k h => by cases h); have HO := hide hown; clear hown hg1)
  rw [made_one _ rfl] at HO
  have HB2 := hide hb2
  have HO2 : Hid (∃ xs, w2.ownsRow w.heap.size 3 1 (.slice (some ⟨w.heap.size, 0, none⟩) n n) n xs ∧ ∀ i, i < 0 → xs[i]? = some (iv ((i * m : Nat) : Int))) := hide ⟨_, HO.out, fun i h => absurd h (by omega)⟩
  clear HO hb2
  go_wp2_with fail
  go_loopw [19] (fun kv wr => ∃ k : Nat, kv = .int .i64 (k : Int) ∧ k ≤ n ∧ Hid (Below w.heap.size w wr) ∧ Hid (∃ xs, wr.ownsRow w.heap.size 3 1 (.slice (some ⟨w.heap.size, 0, none⟩) n n) n xs ∧ ∀ i, i < k → xs[i]? = some (iv ((i * m : Nat) : Int)))) (fun kv _ => n - (intOf kv).toNat)
  case atStart => exact ⟨0, rfl, by omega, HB2, HO2⟩
  case round =>
    obtain ⟨k, rfl, hk, HB, HO⟩ := hrel
    by_cases hkn : k < n
    · have hkni : (k : Int) < (n : Int) := by omega
      obtain ⟨xs, ho, hxs⟩ := HO.out
      obtain ⟨⟨v1, _, m1⟩, f1⟩ := own_at ho hkn
      obtain ⟨q, hq⟩ : ∃ q, q = k * m := ⟨_, rfl⟩
      have hqi : (k : Int) * (m : Int) = (q : Int) := by rw [hq]; push_cast; rfl
      have hqb : q ≤ 4097 * 256 := by rw [hq]; exact Nat.mul_le_mul (by omega) hm2
      have HO3 : Hid (∃ xs, (wr.setCell ⟨w.heap.size, k, none⟩ (iv (q : Int))).ownsRow w.heap.size 3 1 (.slice (some ⟨w.heap.size, 0, none⟩) n n) n xs ∧ ∀ i, i < k + 1 → xs[i]? = some (iv ((i * m : Nat) : Int))) := hide ⟨_, own_set ho hkn (iv (q : Int)), fun i hi => by
        have hl : k < xs.length := by have := ho.1; omega
        by_cases hik : i = k
        · rw [hik, List.getElem?_set_self hl, hq]
        · rw [List.getElem?_set_ne (by omega)]
          exact hxs i (by omega)⟩
      have HB3 := hide (bl_set HB.out (p := ⟨w.heap.size, k, none⟩) (Nat.le_refl _) (iv (q : Int)))
      clear hq ho hxs
      go_wp2
      go_roundw
      case rel => exact ⟨k + 1, by go_num, by omega, HB3, HO3⟩
      case measure => simp [intOf]; omega
    · obtain rfl : k = n := by omega
      obtain ⟨xs, ho, hxs⟩ := HO.out
      have hx : xs = (lmM k m).map iv := by
        apply List.ext_getElem?
        intro i
        by_cases hi : i < k
        · rw [hxs i hi]
          simp [lmM, hi]
        · rw [List.getElem?_eq_none (by have := ho.1; omega), List.getElem?_eq_none (by simp [lmM]; omega)]
      obtain ⟨hq1, A', c', e', hq2, hr, hq3, hq4⟩ := own_form ho
      clear hq1 hq2 hq3 hq4
      have e1 := (Value.slice.inj e').1
      rw [← e1, hx] at hr
      clear e' e1
      have HI := hide (show IsI wr (some ⟨w.heap.size, 0, none⟩) k (lmM k m) from ⟨by simp [lmM], hr⟩)
      have HZ := hide (show ∀ y ∈ lmM k m, (Lit.int .i64 y).wf = true from fun y hy => by
        obtain ⟨i, hi, rfl⟩ := List.mem_map.1 hy
        have hi := List.mem_range.1 hi
        have h3 : i * m ≤ 4097 * 256 := Nat.mul_le_mul (by omega) hm2
        exact WalkArith.wf_i64 ⟨by omega, by omega⟩)
      clear ho hxs hx hr HO HO2
      go_wp2_with fail
      refine (build_any _ k k (lmM k m) wr HI.out HZ.out).mono ?_
      rintro e w3 ⟨g1, g2, hb3⟩
      have HB3 := hide (HB.out.trans (hb3.mono HB.out.size))
      by_cases h4 : 4096 < k
      · have h4' : (4096 : Int) < (k : Int) := by omega
        have hck := HCK.out.2 h4
        obtain rfl := g1 (by rw [hck]; decide)
        rw [hck]
        clear g1 g2 hb3 hck
        go_wp2_with fail
        refine (awake_any w3).mono ?_
        rintro e w5 ⟨rfl, hb5⟩
        have HB5 := hide (HB3.out.trans (hb5.mono HB3.out.size))
        clear hb5
        go_wp2
        go_ret
        exact ⟨rfl, HB5.out⟩
      · have h4' : ¬ (4096 : Int) < (k : Int) := by omega
        have hck := HCK.out.1 (by omega)
        obtain ⟨g, rfl, hg, hs3⟩ := g2 hck
        have HS3 := hide hs3
        clear g1 g2 hb3 hck hg hs3
        go_wp2_with fail
        refine (len_any g _ w3 HS3.out).mono ?_
        rintro e w4 ⟨rfl, rfl⟩
        rw [natsOf_length, show (lmM k m).length = k by simp [lmM]]
        go_wp2_with fail
        refine (awake_any w3).mono ?_
        rintro e w5 ⟨rfl, hb5⟩
        have HB5 := hide (HB3.out.trans (hb5.mono HB3.out.size))
        clear hb5
        go_wp2
        go_ret
        exact ⟨rfl, HB5.out⟩
end postingsLimits
end Go.Proofs.Ytnflffhmnbjelaa
