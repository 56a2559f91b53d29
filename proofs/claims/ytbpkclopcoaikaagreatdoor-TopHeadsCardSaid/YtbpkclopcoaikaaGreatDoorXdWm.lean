/- The walk of corporatop.heads; the heads of a valid corpus are a forest. -/
import Derived.Test.YtbpkclopcoaikaaGreatDoorXcWm
namespace Go.Proofs.YtbpkclopcoaikaaGreatDoor
open Go.RowKit
set_option linter.unusedVariables false
set_option linter.unusedSimpArgs false
theorem cyc_up {p : List Int} {i : Nat} (hr : ∀ (k : Nat) (x : Int), p[k]? = some x → -1 ≤ x ∧ x < p.length) : ∀ (f q : Nat), cycF p (i : Int) f (q : Int) = false → ∀ m, 0 < m → m ≤ f → upN p m q ≠ some i
  | 0, q, _, m, h1, h2, _ => by omega
  | f + 1, q, h, 0, h1, h2, _ => by omega
  | f + 1, q, h, m + 1, h1, h2, he => by
    rw [upN] at he
    cases hq : p[q]? with
    | none => rw [hq] at he; simp at he
    | some y =>
      rw [hq] at he
      simp only [] at he
      have hry := hr q y hq
      by_cases hy : y < 0
      · rw [if_pos hy] at he; simp at he
      · rw [if_neg hy] at he
        obtain ⟨y, rfl⟩ := Int.eq_ofNat_of_zero_le (show 0 ≤ y by omega)
        rw [Int.toNat_natCast] at he
        by_cases hyi : (y : Int) = (i : Int)
        · rw [cycF_hit hq (by omega) hyi] at h
          cases h
        · rw [cycF_on hq (by omega) hyi] at h
          rcases Nat.eq_zero_or_pos m with rfl | hm
          · rw [upN] at he
            injection he with he
            omega
          · exact cyc_up hr f y h m hm (by omega) he
/-- The heads of a corpus, -1 for all its tokens if it has none. -/
def headsL (c : Cv) (d : Cd) : List Int := if c.H.n = 0 then List.replicate c.T.n (-1) else d.H
theorem headsL_len {w : World} {c : Cv} {d : Cd} (h : IsI w c.H.a c.H.n d.H) (ho : HeadsOk d.H c.T.n) : c.T.n = (headsL c d).length := by
  unfold headsL
  have h1 := h.1
  have h2 := ho.1
  by_cases h0 : c.H.n = 0
  · rw [if_pos h0, List.length_replicate]
  · rw [if_neg h0]; omega
theorem headsL_hd {w : World} {c : Cv} {d : Cd} (h : IsI w c.H.a c.H.n d.H) (ho : HeadsOk d.H c.T.n) : IsHd w c (headsL c d) := by
  have hl := headsL_len h ho
  refine ⟨hl, ?_, ?_⟩
  · rw [← hl]
    unfold headsL
    have h1 := h.1
    have h2 := ho.1
    intro i x hx
    split at hx
    · rw [List.getElem?_replicate] at hx
      split at hx
      · injection hx with hx; omega
      · cases hx
    · have := (ho.2 i x hx).1
      omega
  · unfold headsL
    by_cases h0 : c.H.n = 0
    · exact .inl ⟨h0, by rw [if_pos h0]⟩
    · rw [if_neg h0]
      exact .inr h
theorem headsL_forest {w : World} {c : Cv} {d : Cd} (h : IsI w c.H.a c.H.n d.H) (ho : HeadsOk d.H c.T.n) : Forest (headsL c d) (dep (headsL c d) (headsL c d).length) := by
  have hh := headsL_hd h ho
  by_cases h0 : c.H.n = 0
  · refine forest_lt fun i x hx => ?_
    unfold headsL at hx
    rw [if_pos h0, List.getElem?_replicate] at hx
    split at hx
    · injection hx with hx; omega
    · cases hx
  · have e : headsL c d = d.H := by unfold headsL; rw [if_neg h0]
    rw [e] at hh ⊢
    refine forest_acyc hh.rng fun i hi m h1 h2 => ?_
    have hx := List.getElem?_eq_getElem hi
    exact cyc_up hh.rng _ i (ho.2 i _ hx).2 m h1 h2
theorem neg_set (n k : Nat) (hk : k < n) : (List.replicate k (-1 : Int) ++ List.replicate (n - k) 0).set k (-1) = List.replicate (k + 1) (-1) ++ List.replicate (n - (k + 1)) 0 := by
  apply List.ext_getElem?
  intro i
  rw [List.getElem?_set]
  simp only [List.length_append, List.length_replicate, List.getElem?_append, List.getElem?_replicate]
  by_cases e : k = i
  · subst e
    rw [if_pos rfl, if_pos (by omega), if_pos (by omega), if_pos (by omega)]
  · rw [if_neg e]
    rcases Nat.lt_or_ge i k with h | h
    · rw [if_pos h, if_pos h, if_pos (show i < k + 1 by omega), if_pos (show i < k + 1 by omega)]
    · rw [if_neg (by omega), if_neg (show ¬ i < k + 1 by omega)]
      by_cases h2 : i < n
      · rw [if_pos (by omega), if_pos (by omega)]
      · rw [if_neg (by omega), if_neg (by omega)]
set_option maxHeartbeats 8000000 in
set_option maxRecDepth 100000 in
theorem theads_any (c : Cv) (d : Cd) (w : World) (h : IsI w c.H.a c.H.n d.H) (hf : CFit c) (ho : HeadsOk d.H c.T.n) (hn : c.T.n ≤ 4096) :
    Calls Tryz.prog 14 #[c.v] w fun e w' => ∃ a k, e = .returned (.slice a c.T.n k) ∧ c.T.n ≤ k ∧ k ≤ maxLen ∧ IsI w' a c.T.n (headsL c d) ∧ Below w.heap.size w w' := by
  obtain ⟨i2, hi2, hz0, hz1, hz2⟩ := info_parts info_int
  have hl := headsL_len h ho
  have hff := hf.H
  obtain ⟨W0, hW0⟩ : ∃ W0, W0 = w.alloc c.o := ⟨_, rfl⟩
  have HW0 := hide hW0
  have HB := hide (bl_alloc (bl_refl w) c.o)
  have HC := hide (CCells.new w c)
  rw [← hW0] at HB HC
  have HBx : Hid (Below w.heap.size w (w.alloc c.o)) := hide (bl_alloc (bl_refl w) c.o)
  have HI := hide (h.below HB.out)
  have HIx := hide (h.below HBx.out)
  by_cases h0 : 0 < c.H.n
  · have h0' : (0 : Int) < (c.H.n : Int) := by omega
    have e : headsL c d = d.H := by unfold headsL; rw [if_neg (by omega)]
    have hn1 : c.H.n = c.T.n := by rw [e] at hl; rw [hl]; exact h.1
    have HE := hide e
    have HN1 := hide hn1
    have hi3 := HIx.out
    rw [hn1, ← e] at hi3
    have HIx := hide hi3
    clear h hW0 hl e hn1 HI HB HC HW0 W0 hi3
    go_enter Tryz.func14, Tryz.ntmps14
    go_wp2
    go_ret
    exact ⟨c.H.a, c.H.c, by rw [← HN1.out]; rfl, by have := HN1.out; omega, by have := hff.2; simp only [maxLen, big] at *; omega, HIx.out, HBx.out⟩
  · have h0' : ¬ (0 : Int) < (c.H.n : Int) := by omega
    have e : headsL c d = List.replicate c.T.n (-1) := by unfold headsL; rw [if_pos (by omega)]
    have HE := hide e
    clear h hl e hf ho
    go_enter Tryz.func14, Tryz.ntmps14
    go_wp2_with (at_make; rw [← hW0]; go_loud (refine wpList_make_full _ rfl (.tmp 13) (.tmp 13) 27 rfl W0.heap.size 3 i2 _ 1 Tryz.underlying27 hi2 hz0 hz1 .i64 .i64 _ _ c.T.n rfl rfl rfl rfl (by rw [hz2]; omega) (by simp only [maxLen]; omega) (Nat.le_refl _) ?_); intro w2 hown hg1; rw [made_one _ rfl] at hown; have hb2 : Below W0.heap.size W0 w2 := bl_grown (bl_refl W0) hg1 (fun k h => by cases h); have HO := hide hown; have HBm := hide hb2; clear hown hg1 hb2 hW0)
    obtain ⟨n, hn'⟩ : ∃ n, n = c.T.n := ⟨_, rfl⟩
    have HO := hide (show w2.ownsRow W0.heap.size 3 1 (.slice (some ⟨W0.heap.size, 0, none⟩) c.T.n c.T.n) c.T.n ((List.replicate 0 (-1 : Int) ++ List.replicate (c.T.n - 0) (0 : Int)).map iv) by rw [List.replicate_zero, List.nil_append, List.map_replicate]; exact HO.out)
    rw [← hn'] at HO ⊢
    have hn4 : n ≤ 4096 := by omega
    obtain ⟨r0, hr0⟩ : ∃ g, g = W0.heap.size := ⟨_, rfl⟩
    rw [← hr0] at HO ⊢
    have HR0E := hide hr0
    have HNE := hide hn'
    clear hr0
    rw [← hn'] at HE
    clear hn'
    go_loopw [17] (fun kv wr => ∃ k : Nat, kv = .int .i64 (k : Int) ∧ k ≤ n ∧ Hid (wr.ownsRow r0 3 1 (.slice (some ⟨r0, 0, none⟩) n n) n ((List.replicate k (-1 : Int) ++ List.replicate (n - k) (0 : Int)).map iv)) ∧ Hid (Below W0.heap.size W0 wr)) (fun kv _ => n - (intOf kv).toNat)
    case atStart => exact ⟨0, rfl, Nat.zero_le _, HO, HBm⟩
    case round =>
      obtain ⟨k, rfl, hk, HWk, HBk⟩ := hrel
      by_cases hkn : k < n
      · have hki : (k : Int) < (n : Int) := by omega
        obtain ⟨dv, hdv⟩ : ∃ x, (List.replicate k (-1 : Int) ++ List.replicate (n - k) (0 : Int))[k]? = some x := ⟨_, List.getElem?_eq_getElem (by simp; omega)⟩
        have m1 := own_at_i HWk.out hdv hkn
        have z1 := own_frz HWk.out hkn
        have hw7 := own_set_i HWk.out hkn (-1)
        rw [neg_set n k hkn] at hw7
        have HW7 := hide hw7
        have HX7 := hide (HBk.out.setCell (p := ⟨r0, k, none⟩) (by rw [HR0E.out]; exact Nat.le_refl _) (.int .i64 (-1)))
        clear hw7 hdv
        go_wp2
        go_roundw
        case rel => exact ⟨k + 1, by go_num, by omega, HW7, HX7⟩
        case measure => simp [intOf]; omega
      · obtain rfl : k = n := by omega
        have hki : ¬ (k : Int) < (k : Int) := by omega
        have hO := HWk.out
        rw [Nat.sub_self, List.replicate_zero, List.append_nil] at hO
        obtain ⟨av, cv, hv, hcc, hcm, hII⟩ := own_isI hO (by simp)
        injection hv with hv1 _ hv2
        subst hv1 hv2
        have HII := hide hII
        clear hO hII
        go_wp2
        go_ret
        exact ⟨some ⟨r0, 0, none⟩, k, by rw [← HNE.out]; rfl, by rw [← HNE.out]; exact Nat.le_refl _, by simp only [maxLen]; omega, by rw [HE.out, ← HNE.out]; exact HII.out, HB.out.trans (HBk.out.mono HB.out.size)⟩
end Go.Proofs.YtbpkclopcoaikaaGreatDoor
