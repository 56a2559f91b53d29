/- The walks of bitio.PutUvarint, bitio.Uvarint, corporaref02.Uvarint, corporaref02.Take, corporalaw02.same. -/
import Derived.Test.YtnflffhmnbjelaaProg
import Derived.Test.YtnflffhmnbjelaaApp
import Derived.Test.YtnflffhmnbjelaaUvM
namespace Go.Proofs.Ytnflffhmnbjelaa
open Go.RowKit
set_option linter.unusedVariables false
set_option linter.unusedSimpArgs false

theorem info_u8 : (Try.prog.info? 5).map (fun i => (i.zero, i.size, i.bytes)) = some (some (.int .u8 0), 1, 1) := by kernel_rfl


set_option maxRecDepth 100000 in
theorem putuv_any (a : Option Addr) (len cap : Nat) (x : Int) (l : List UInt8) (v : Nat) (w : World) (hx : x = v) (hv : v < 2 ^ 64) (hl : len = l.length) (hm : len ≤ 1000000) (hr : BRd w a l) :
    Calls Try.prog 32 #[.slice a len cap, .int .u64 x] w fun e w' => ∃ r, e = .returned r ∧ w'.ownsRow w.heap.size 5 1 r (len + (uv v).length) ((l ++ uv v).map u8v) ∧ Below w.heap.size w w' := by
  subst hx
  have HL := hide hl
  have HR := hide hr
  have HV := hide hv
  clear hl hr hv
  obtain ⟨i0, hi0, hz0, hz1, hz2⟩ := info_parts info_u8
  have hmk := fun W => run_make_nc (P := Try.prog) 42 5 i0 _ Try.underlying42 hi0 hz0 .i64 .i64 len (len + 10) (by omega) (by rw [hz2]; omega) (by omega) W
  have ec : ((len + 10 : Nat) : Int) = (len : Int) + 10 := by omega
  rw [ec, hz1] at hmk
  clear ec
  go_enter Try.func32, Try.ntmps32
  go_wp2_with (refine wpList_copy_splice rfl (.tmp 12) (.tmp 13) 42 42 rfl 5 Try.underlying42 (by kernel_rfl) (some ⟨w.heap.size, 0, none⟩) a len (len + 10) len cap rfl rfl w.heap.size 0 (List.replicate (len + 10) (.int .u8 0)) 5 (by rw [← made_arr]; exact heap_alloc_new w _) (l.map u8v) (by simp [← HL.out]) (fun h => ⟨rfl, by
      obtain ⟨b, o, ha, _, hc⟩ := (HR.out.alloc (.cells (madeCells #[.int .u8 0] (len + 10)) 5)).open_ h
      exact ⟨_, ha, fun j v hv => by rw [Addr.add_lit]; exact hc j v hv⟩⟩) (by simp [← HL.out]) (u8s_one _) w.heap.size w (bl_alloc (bl_refl w) _) (Nat.le_refl _) ?_)
  intro w2 hg2 hb2
  go_wp2_with fail
  have hown : w2.ownsRow w.heap.size 5 1 (.slice (some ⟨w.heap.size, 0, none⟩) len (len + 10)) len (l.map u8v) := by
    refine ⟨by simp [← HL.out], .inr ⟨w.heap.size, len + 10, _, rfl, Nat.le_refl _, hg2.out, by omega, by simp only [maxLen]; omega, ?_, ?_⟩⟩
    · simp [splice, ← HL.out]
    · rw [List.toList_toArray, Nat.mul_one, splice, List.take_zero, List.nil_append]
      exact List.take_left' (by simp [← HL.out])
  clear hg2 hmk
  go_loopw [1, 5] (fun y r wr => ∃ (n v' : Nat) (pre : List UInt8), y = .int .u64 (v' : Int) ∧ v' < 128 ^ (n + 1) ∧ v' < 2 ^ 64 ∧ pre.length + n = 9 ∧ pre ++ uvF n v' = uv v ∧ wr.ownsRow w.heap.size 5 1 r (len + pre.length) ((l ++ pre).map u8v) ∧ Below w.heap.size w wr) (fun y _ _ => (intOf y).toNat)
  case atStart => exact ⟨9, v, [], rfl, by have := HV.out; omega, HV.out, rfl, rfl, by simpa using hown, hb2⟩
  case round =>
    obtain ⟨n, v', pre, rfl, h1, h2, h3, h4, hown, hb⟩ := hrel
    have H := hide (And.intro h1 (And.intro h2 (And.intro h3 (And.intro h4 hown))))
    have h3' : pre.length ≤ 9 := by omega
    clear h1 h2 h3 h4 hown
    by_cases hlt : v' < 128
    · have HE := hide (u8v_of v' hlt)
      go_wp2_with (at_builtin; refine wpList_append_rd _ rfl (.tmp 25) (.tmp 28) 42 rfl w.heap.size 5 i0 _ 1 1 Try.underlying42 hi0 hz0 hz1 hz2 rfl (by omega) u5 (len + pre.length) ((l ++ pre).map u8v) rfl (H.out.2.2.2.2.alloc _) _ 1 1 [.int .u8 (v' : Int)] rfl rfl (rd_lit _ _ _ _) (by intro u hu; simp at hu; subst hu; rfl) (by simp only [maxLen]; omega) (by omega) (by have := hb.size; simp; omega) ?_; intro r2 w3 hown3 hg3 hat3)
      go_ret
      refine ⟨r2, rfl, ?_, bl_grown (bl_alloc hb _) hg3 (fun k h => (H.out.2.2.2.2.lt k h).1)⟩
      have h5 := H.out.2.2.2.1
      rw [uvF_small n v' hlt] at h5
      rw [HE.out] at hown3
      rw [← h5, ← List.append_assoc, List.map_append, List.length_append, ← Nat.add_assoc]
      exact hown3
    · have e1 := or128 v'
      generalize hc : UInt8.ofNat (v' % 128 + 128) = c at e1
      have HC := hide hc
      clear hc
      go_wp2_with (at_builtin; refine wpList_append_rd _ rfl (.tmp 17) (.tmp 21) 42 rfl w.heap.size 5 i0 _ 1 1 Try.underlying42 hi0 hz0 hz1 hz2 rfl (by omega) u5 (len + pre.length) ((l ++ pre).map u8v) rfl (H.out.2.2.2.2.alloc _) _ 1 1 [u8v c] rfl rfl (rd_lit _ _ _ _) (one_u8 c) (by simp only [maxLen]; omega) (by omega) (by have := hb.size; simp; omega) ?_; intro r2 w3 hown3 hg3 hat3)
      go_roundw
      case rel =>
        obtain ⟨h1, h2, h3, h4, hown⟩ := H.out
        obtain ⟨m, rfl⟩ : ∃ m, n = m + 1 := by
          cases n with
          | zero => simp at h1; omega
          | succ m => exact ⟨m, rfl⟩
        refine ⟨m, v' / 128, pre ++ [c], by go_num, by rw [Nat.pow_succ] at h1; omega, by omega, by simp; omega, ?_, ?_, bl_grown (bl_alloc hb _) hg3 (fun k h => (hown.lt k h).1)⟩
        · rw [← h4, uvF_big m v' (by omega), HC.out]; simp
        · rw [← List.append_assoc, List.map_append, List.length_append, ← Nat.add_assoc]
          exact hown3
      case measure => simp [intOf]; omega

set_option maxRecDepth 100000 in
theorem ruv_any (x : Int) (v : Nat) (w : World) (hx : x = v) (hv : v < 2 ^ 64) :
    Calls Try.prog 39 #[.int .u64 x] w fun e w' => ∃ r, e = .returned r ∧ w'.ownsRow w.heap.size 5 1 r (uv v).length ((uv v).map u8v) ∧ Below w.heap.size w w' := by
  subst hx
  have HV := hide hv
  clear hv
  obtain ⟨i0, hi0, hz0, hz1, hz2⟩ := info_parts info_u8
  go_enter Try.func39, Try.ntmps39
  go_wp2_with fail
  go_loopw [0, 3] (fun y r wr => ∃ (n v' : Nat) (pre : List UInt8), y = .int .u64 (v' : Int) ∧ v' < 128 ^ (n + 1) ∧ v' < 2 ^ 64 ∧ pre.length + n = 9 ∧ pre ++ uvF n v' = uv v ∧ wr.ownsRow w.heap.size 5 1 r pre.length (pre.map u8v) ∧ Below w.heap.size w wr) (fun y _ _ => (intOf y).toNat)
  case atStart => exact ⟨9, v, [], rfl, by have := HV.out; omega, HV.out, rfl, rfl, World.ownsRow_nil _ _ _ _, bl_refl _⟩
  case round =>
    obtain ⟨n, v', pre, rfl, h1, h2, h3, h4, hown, hb⟩ := hrel
    have H := hide (And.intro h1 (And.intro h2 (And.intro h3 (And.intro h4 hown))))
    have h3' : pre.length ≤ 9 := by omega
    clear h1 h2 h3 h4 hown
    by_cases hlt : v' < 128
    · have HE := hide (u8v_of v' hlt)
      go_wp2_with (at_builtin; refine wpList_append_rd _ rfl (.tmp 15) (.tmp 18) 42 rfl w.heap.size 5 i0 _ 1 1 Try.underlying42 hi0 hz0 hz1 hz2 rfl (by omega) u3 pre.length (pre.map u8v) rfl (H.out.2.2.2.2.alloc _) _ 1 1 [.int .u8 (v' : Int)] rfl rfl (rd_lit _ _ _ _) (by intro u hu; simp at hu; subst hu; rfl) (by simp only [maxLen]; omega) (by omega) (by have := hb.size; simp; omega) ?_; intro r2 w3 hown3 hg3 hat3)
      go_ret
      refine ⟨r2, rfl, ?_, bl_grown (bl_alloc hb _) hg3 (fun k h => (H.out.2.2.2.2.lt k h).1)⟩
      have h5 := H.out.2.2.2.1
      rw [uvF_small n v' hlt] at h5
      rw [HE.out] at hown3
      rw [← h5, List.map_append, List.length_append]
      exact hown3
    · have e1 : (v' : Int) % 128 + 128 = ((UInt8.ofNat (v' % 128 + 128)).toNat : Int) := by
        simp [UInt8.toNat_ofNat']; omega
      have e2 : IntKind.u64.wrap ((v' : Int) / 128) = (v' : Int) / 128 := by
        have := H.out.2.1
        rw [IntKind.wrap_u64]; omega
      generalize hc : UInt8.ofNat (v' % 128 + 128) = c at e1
      have HC := hide hc
      clear hc
      go_wp2_with (at_builtin; refine wpList_append_rd _ rfl (.tmp 6) (.tmp 11) 42 rfl w.heap.size 5 i0 _ 1 1 Try.underlying42 hi0 hz0 hz1 hz2 rfl (by omega) u3 pre.length (pre.map u8v) rfl (H.out.2.2.2.2.alloc _) _ 1 1 [u8v c] rfl rfl (rd_lit _ _ _ _) (one_u8 c) (by simp only [maxLen]; omega) (by omega) (by have := hb.size; simp; omega) ?_; intro r2 w3 hown3 hg3 hat3)
      go_roundw
      case rel =>
        obtain ⟨h1, h2, h3, h4, hown⟩ := H.out
        obtain ⟨m, rfl⟩ : ∃ m, n = m + 1 := by
          cases n with
          | zero => simp at h1; omega
          | succ m => exact ⟨m, rfl⟩
        refine ⟨m, v' / 128, pre ++ [c], by go_num, by rw [Nat.pow_succ] at h1; omega, by omega, by simp; omega, ?_, ?_, bl_grown (bl_alloc hb _) hg3 (fun k h => (hown.lt k h).1)⟩
        · rw [← h4, uvF_big m v' (by omega), HC.out]; simp
        · rw [List.map_append, List.length_append]
          exact hown3
      case measure => simp [intOf]; omega

/-- What decoding answers. -/
def decV (r : Nat × Nat × Nat) : Value := .tuple #[.int .u64 r.1, .int .i64 r.2.1, .int .i64 r.2.2]
set_option maxRecDepth 100000 in
theorem uvarint_any (a : Option Addr) (len cap : Nat) (l : List UInt8) (w : World) (hl : len = l.length) (hm : len ≤ 1000000) (hr : BRd w a l) :
    Calls Try.prog 35 #[.slice a len cap] w fun e w' => e = .returned (decV (dec 0 0 l)) ∧ w = w' := by
  have HL := hide hl
  have HR := hide hr
  clear hl hr
  go_enter Try.func35, Try.ntmps35
  go_wp2
  have e0 : (0 : Int) = ((0 : Nat) : Int) := rfl
  go_loop [2, 9] (fun y i => ∃ (k v : Nat), i = .int .i64 (k : Int) ∧ y = .int .u64 (v : Int) ∧ k ≤ len ∧ k ≤ 9 ∧ v < 2 ^ (7 * k) ∧ dec k v (l.drop k) = dec 0 0 l) (fun _ i => len - (intOf i).toNat)
  case atStart => exact ⟨0, 0, rfl, rfl, Nat.zero_le _, by omega, by simp, rfl⟩
  case round =>
    obtain ⟨k, v, rfl, rfl, hk, hk9, hv, hd⟩ := hrel
    clear e0
    by_cases hlt : k < len
    · obtain ⟨b, o, c, rfl, hb, hlc, hc⟩ := HR.out.at_ (k := k) (by rw [← HL.out]; exact hlt)
      have hcl := c.toNat_lt
      have hdrop : l.drop k = c :: l.drop (k + 1) := by
        have hkl := (List.getElem?_eq_some_iff.1 hlc).1
        rw [List.drop_eq_getElem_cons hkl, (List.getElem?_eq_some_iff.1 hlc).2]
      rw [hdrop, dec] at hd
      have HD := hide hd
      have HV := hide hv
      clear hd hdrop hlc hv
      have hand := and127 c
      generalize hm : c.toNat % 128 = m at hand
      have HM := hide hm
      have hm128 : m < 128 := by omega
      clear hm
      have hkl : (k : Int) < len := by omega
      by_cases hA : k = 9 ∧ c.toNat ≠ 1
      · have hd : dec 0 0 l = (0, 0, 9) := by
          rw [← HD.out]
          by_cases h1 : 1 < c.toNat
          · rw [if_pos ⟨hA.1, h1⟩]
          · rw [if_neg (fun h => h1 h.2), if_pos (show c.toNat < 128 by omega), if_pos (show c.toNat = 0 ∧ 0 < k by omega)]
        have HR1 := hide hd
        have t1 : ((k : Int) == 9) = true := by rw [beq_iff_eq]; omega
        have t2 : ((c.toNat : Int) != 1) = true := by rw [bne_iff_ne]; omega
        clear hd hA
        go_wp2
        go_ret3
        exact ⟨by rw [HR1.out]; rfl, rfl⟩
      · obtain ⟨v2, e1, hv2, hv3⟩ := v_or2 v c.toNat k m hk9 (by omega) (by omega) HV.out HM.out
        have HV2 := hide hv2
        have HV3 := hide hv3
        clear hv2 hv3
        have hd : (if c.toNat < 128 then if c.toNat = 0 ∧ 0 < k then (0, 0, 9) else (v2, k + 1, 0) else dec (k + 1) v2 (List.drop (k + 1) l)) = dec 0 0 l := by
          rw [← HD.out, if_neg (show ¬ (k = 9 ∧ 1 < c.toNat) by omega), HV2.out]
        have HD2 := hide hd
        clear hd HD HV
        by_cases hB : c.toNat < 128
        · have t2 : (c.toNat : Int) < 128 := by omega
          by_cases hC : c.toNat = 0 ∧ 0 < k
          · have hd : dec 0 0 l = (0, 0, 9) := by rw [← HD2.out, if_pos hB, if_pos hC]
            have HR1 := hide hd
            have t3 : ((c.toNat : Int) == 0) = true := by rw [beq_iff_eq]; omega
            have t4 : (0 : Int) < k := by omega
            clear hd
            by_cases h9 : k = 9
            · omega
            · have t1 : ((k : Int) == 9) = false := by rw [beq_eq_false_iff_ne]; omega
              clear hC hA h9
              go_wp2
              go_ret3
              exact ⟨by rw [HR1.out]; rfl, rfl⟩
          · have hd : dec 0 0 l = (v2, k + 1, 0) := by rw [← HD2.out, if_pos hB, if_neg hC]
            have HR1 := hide hd
            clear hd
            have t0 : ((c.toNat : Int) == 0) = false ∨ (((c.toNat : Int) == 0) = true ∧ ¬ (0 : Int) < k) := by
              by_cases h : c.toNat = 0
              · exact .inr ⟨by rw [beq_iff_eq]; omega, by omega⟩
              · exact .inl (by rw [beq_eq_false_iff_ne]; omega)
            by_cases h9 : k = 9
            · have t1 : ((k : Int) == 9) = true := by rw [beq_iff_eq]; omega
              have t5 : ((c.toNat : Int) != 1) = false := by rw [bne_eq_false_iff_eq]; omega
              rcases t0 with t0 | ⟨t0, t0'⟩
              · clear h9 hA hC
                go_wp2
                go_ret3
                exact ⟨by rw [HR1.out]; first | rfl | (unfold decV; simp), rfl⟩
              · omega
            · have t1 : ((k : Int) == 9) = false := by rw [beq_eq_false_iff_ne]; omega
              clear h9 hA hC
              rcases t0 with t0 | ⟨t0, t0'⟩
              all_goals
                go_wp2
                go_ret3
                exact ⟨by rw [HR1.out]; first | rfl | (unfold decV; simp), rfl⟩
        · have hk8 : k < 9 := by omega
          have t1 : ((k : Int) == 9) = false := by rw [beq_eq_false_iff_ne]; omega
          have t2 : ¬ (c.toNat : Int) < 128 := by omega
          clear hA
          go_wp2
          go_round
          case rel => exact ⟨k + 1, v2, by go_num, rfl, by omega, by omega, HV3.out, by rw [← HD2.out, if_neg hB]⟩
          case measure => simp [intOf]; omega
    · go_wp2
      go_ret3
      obtain rfl : k = len := by omega
      rw [← hd, List.drop_eq_nil_of_le (by rw [← HL.out]; exact Nat.le_refl _)]
      exact ⟨rfl, rfl⟩
set_option maxRecDepth 100000 in
theorem take_any (a : Option Addr) (len cap : Nat) (l : List UInt8) (w : World) (hl : len = l.length) (hm : len ≤ 1000000) (hr : BRd w a l) :
    Calls Try.prog 43 #[.slice a len cap] w fun e w' => e = .returned (decV (dec 0 0 l)) ∧ w = w' := by
  have HL := hide hl
  have HR := hide hr
  clear hl hr
  go_enter Try.func43, Try.ntmps43
  go_wp2
  have e0 : (0 : Int) = ((0 : Nat) : Int) := rfl
  go_loop [5, 10] (fun y i => ∃ (k v : Nat), i = .int .i64 (k : Int) ∧ y = .int .u64 (v : Int) ∧ k ≤ len ∧ k ≤ 9 ∧ v < 2 ^ (7 * k) ∧ dec k v (l.drop k) = dec 0 0 l) (fun _ i => len - (intOf i).toNat)
  case atStart => exact ⟨0, 0, rfl, rfl, Nat.zero_le _, by omega, by simp, rfl⟩
  case round =>
    obtain ⟨k, v, rfl, rfl, hk, hk9, hv, hd⟩ := hrel
    clear e0
    by_cases hlt : k < len
    · obtain ⟨b, o, c, rfl, hb, hlc, hc⟩ := HR.out.at_ (k := k) (by rw [← HL.out]; exact hlt)
      have hcl := c.toNat_lt
      have hdrop : l.drop k = c :: l.drop (k + 1) := by
        have hkl := (List.getElem?_eq_some_iff.1 hlc).1
        rw [List.drop_eq_getElem_cons hkl, (List.getElem?_eq_some_iff.1 hlc).2]
      rw [hdrop, dec] at hd
      have HD := hide hd
      have HV := hide hv
      clear hd hdrop hlc hv
      obtain ⟨m, hm⟩ : ∃ m, c.toNat % 128 = m := ⟨_, rfl⟩
      have hand : (c.toNat : Int) % 128 = (m : Int) := by omega
      have HM := hide hm
      have hm128 : m < 128 := by omega
      clear hm
      have hkl : (k : Int) < len := by omega
      by_cases hA : k = 9 ∧ 1 < c.toNat
      · have hd : dec 0 0 l = (0, 0, 9) := by
          rw [← HD.out]
          by_cases h1 : 1 < c.toNat
          · rw [if_pos ⟨hA.1, h1⟩]
          · rw [if_neg (fun h => h1 h.2), if_pos (show c.toNat < 128 by omega), if_pos (show c.toNat = 0 ∧ 0 < k by omega)]
        have HR1 := hide hd
        have t1 : ((k : Int) == 9) = true := by rw [beq_iff_eq]; omega
        have t2 : (1 : Int) < c.toNat := by omega
        clear hd hA
        go_wp2
        go_ret3
        exact ⟨by rw [HR1.out]; rfl, rfl⟩
      · obtain ⟨v2, e1, hv2, hv3⟩ := v_or2 v c.toNat k m hk9 (by omega) (by omega) HV.out HM.out
        have HV2 := hide hv2
        have HV3 := hide hv3
        clear hv2 hv3
        have hd : (if c.toNat < 128 then if c.toNat = 0 ∧ 0 < k then (0, 0, 9) else (v2, k + 1, 0) else dec (k + 1) v2 (List.drop (k + 1) l)) = dec 0 0 l := by
          rw [← HD.out, if_neg (show ¬ (k = 9 ∧ 1 < c.toNat) by omega), HV2.out]
        have HD2 := hide hd
        clear hd HD HV
        by_cases hB : c.toNat < 128
        · have t2 : (c.toNat : Int) < 128 := by omega
          by_cases hC : c.toNat = 0 ∧ 0 < k
          · have hd : dec 0 0 l = (0, 0, 9) := by rw [← HD2.out, if_pos hB, if_pos hC]
            have HR1 := hide hd
            have t3 : ((c.toNat : Int) == 0) = true := by rw [beq_iff_eq]; omega
            have t4 : (0 : Int) < k := by omega
            clear hd
            by_cases h9 : k = 9
            · have t1 : ((k : Int) == 9) = true := by rw [beq_iff_eq]; omega
              have t5 : ¬ (1 : Int) < c.toNat := by omega
              clear hC hA h9
              go_wp2
              go_ret3
              exact ⟨by rw [HR1.out]; rfl, rfl⟩
            · have t1 : ((k : Int) == 9) = false := by rw [beq_eq_false_iff_ne]; omega
              clear hC hA h9
              go_wp2
              go_ret3
              exact ⟨by rw [HR1.out]; rfl, rfl⟩
          · have hd : dec 0 0 l = (v2, k + 1, 0) := by rw [← HD2.out, if_pos hB, if_neg hC]
            have HR1 := hide hd
            clear hd
            have t0 : ((c.toNat : Int) == 0) = false ∨ (((c.toNat : Int) == 0) = true ∧ ¬ (0 : Int) < k) := by
              by_cases h : c.toNat = 0
              · exact .inr ⟨by rw [beq_iff_eq]; omega, by omega⟩
              · exact .inl (by rw [beq_eq_false_iff_ne]; omega)
            by_cases h9 : k = 9
            · have t1 : ((k : Int) == 9) = true := by rw [beq_iff_eq]; omega
              have t5 : ¬ (1 : Int) < c.toNat := by omega
              rcases t0 with t0 | ⟨t0, t0'⟩
              · clear h9 hA hC
                go_wp2
                go_ret3
                exact ⟨by rw [HR1.out]; first | rfl | (unfold decV; simp), rfl⟩
              · omega
            · have t1 : ((k : Int) == 9) = false := by rw [beq_eq_false_iff_ne]; omega
              clear h9 hA hC
              rcases t0 with t0 | ⟨t0, t0'⟩
              all_goals
                go_wp2
                go_ret3
                exact ⟨by rw [HR1.out]; first | rfl | (unfold decV; simp), rfl⟩
        · have hk8 : k < 9 := by omega
          have t1 : ((k : Int) == 9) = false := by rw [beq_eq_false_iff_ne]; omega
          have t2 : ¬ (c.toNat : Int) < 128 := by omega
          clear hA
          go_wp2
          go_round
          case rel => exact ⟨k + 1, v2, by go_num, rfl, by omega, by omega, HV3.out, by rw [← HD2.out, if_neg hB]⟩
          case measure => simp [intOf]; omega
    · go_wp2
      go_ret3
      obtain rfl : k = len := by omega
      rw [← hd, List.drop_eq_nil_of_le (by rw [← HL.out]; exact Nat.le_refl _)]
      exact ⟨rfl, rfl⟩
end Go.Proofs.Ytnflffhmnbjelaa
