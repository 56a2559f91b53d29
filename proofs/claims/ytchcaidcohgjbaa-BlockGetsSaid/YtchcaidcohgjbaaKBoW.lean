/- The walk of the law BlockBounds. -/
import Derived.Test.YtchcaidcohgjbaaKLsW
namespace Go.Proofs.Ytchcaidcohgjbaa
open Go.RowKit
set_option linter.unusedVariables false
set_option linter.unusedSimpArgs false
theorem own_some {w : World} {base : Nat} {e : TypeId} {v : Value} {n : Nat} {xs : List Value} (h : w.ownsRow base e 1 v n xs) (hn : 0 < n) : ∃ g c, v = .slice (some ⟨g, 0, none⟩) n c ∧ base ≤ g := by
  rcases h.2 with ⟨h1, h2⟩ | ⟨g, cap, cur, rfl, hb, _⟩
  · omega
  · exact ⟨g, cap, rfl, hb⟩
theorem ivs_one (l : List Int) : ∀ u ∈ l.map iv, u.oneCell' = true := by
  intro u hu
  obtain ⟨_, _, rfl⟩ := List.mem_map.1 hu
  rfl
theorem info_int : (Try.prog.info? 3).map (fun i => (i.zero, i.size, i.bytes)) = some (some (.int .i64 0), 1, 8) := by kernel_rfl
namespace blockBounds
set_option maxHeartbeats 2000000 in
set_option maxRecDepth 100000 in
theorem walk (a : Option Addr) (n cap : Nat) (z : List Int) (x : Int) (pa pg : Int) (w : World) (w0 : IsRow .i64 w a n cap z) (w1 : (Lit.int .i64 x).wf = true) :
    Calls Try.prog 3 #[.slice a n cap, .int .i64 x, .agg #[.int .i64 pa, .int .i64 pg]] w fun e w' => e = .returned (.bool true) ∧ Below w.heap.size w w' := by
  obtain ⟨l, hl, hc, hm, hz⟩ := w0.ints
  have HI0 := hide hl
  clear hl hz w0 w1
  obtain ⟨i2, hi2, hz0, hz1, hz2⟩ := info_parts info_int
  go_enter Try.func3, Try.ntmps3
  go_wp2_with fail
  have k0 : (w.alloc (.cells #[.int .i64 pa, .int .i64 pg] 24)).cell? ⟨w.heap.size, 0, none⟩ = some (.int .i64 pa) := cell_of_row _ _ 0 _ _ _ (heap_alloc_new w _)
  have k1 : (w.alloc (.cells #[.int .i64 pa, .int .i64 pg] 24)).cell? ⟨w.heap.size, 1, none⟩ = some (.int .i64 pg) := cell_of_row _ _ 1 _ _ _ (heap_alloc_new w _)
  have HWA : Hid (Below w.heap.size w (w.alloc (.cells #[.int .i64 pa, .int .i64 pg] 24))) := hide (bl_alloc (bl_refl w) _)
  generalize w.alloc (.cells #[.int .i64 pa, .int .i64 pg] 24) = wa at *
  refine wp_region_K 6 (by kernel_rfl) (by kernel_rfl) (fun Q HQ => ?_)
  simp only [List.take_succ_cons, List.take_zero, List.map_cons, List.map_nil]
  repeat
    first | apply wpS_c rfl | apply wpS_gc rfl (guard_mk rfl rfl)
    focus
      intro ev wx hC hx
      (try simp [Op.operands, Call.operands, opndS, Slot.holds] at hx)
      have e0 : wx.cell? _ = _ := CB.cell hC (W0 := wa.drew) k0
      have e1 : wx.cell? _ = _ := CB.cell hC (W0 := wa.drew) k1
      go_simp
      try (first | exact rfl | exact ⟨Below.refl _ _, rfl⟩)
      done
    dsimp only [setS, List.set]
  refine wpS_nil (HQ _ fun w1 hC1 => ?_)
  simp only [closeS, List.drop_succ_cons, List.drop_zero, List.drop_nil]
  clear HQ
  have HB1 := hide (bl_trans HWA.out hC1.below)
  clear hC1 k0 k1 HWA
  have HI := hide (HI0.out.below HB1.out)
  clear HI0
  go_wp2_with fail
  refine (rcheck_any a n cap l w1 HI.out).mono ?_
  rintro e w' ⟨rfl, rfl⟩
  by_cases h0 : chkV l = 0
  case neg =>
    obtain ⟨c, hcc⟩ : ∃ c, c = chkV l := ⟨_, rfl⟩
    have hc0 : (((c : Nat) : Int) != 0) = true := by rw [bne_iff_ne]; omega
    rw [← hcc]
    clear hcc h0
    go_wp2
    go_ret
    exact ⟨rfl, HB1.out⟩
  have H0 := hide h0
  rw [h0]
  clear h0
  by_cases h1 : x < 0
  · go_wp2
    go_ret
    exact ⟨rfl, HB1.out⟩
  by_cases h2 : 31 < x
  · go_wp2
    go_ret
    exact ⟨rfl, HB1.out⟩
  by_cases h3 : pg < 0
  · go_wp2
    go_ret
    exact ⟨rfl, HB1.out⟩
  by_cases h4 : 2147483647 < pg
  · go_wp2
    go_ret
    exact ⟨rfl, HB1.out⟩
  obtain ⟨wd, rfl⟩ := Int.eq_ofNat_of_zero_le (show 0 ≤ x by omega)
  obtain ⟨gr, rfl⟩ := Int.eq_ofNat_of_zero_le (show 0 ≤ pg by omega)
  obtain ⟨vs, hvs⟩ : ∃ vs, vs = natsOf l := ⟨_, rfl⟩
  have HV := hide (HI.out.nats H0.out)
  have HOK := hide (natsOf_ok l H0.out).2
  have HEQ := hide (natsOf_ok l H0.out).1
  rw [← hvs] at HV HOK HEQ
  have HN := hide HV.out.1
  have hn128 : n ≤ 128 := by rw [HN.out]; exact HOK.out.1
  have hwd : wd ≤ 31 := by omega
  have hgr : gr < 2 ^ 31 := by omega
  have HVS := hide hvs
  clear hvs
  go_wp2_with fail
  go_loopw [43] (fun i wr => ∃ k : Nat, i = .int .i64 (k : Int) ∧ k ≤ n ∧ Hid (∀ v ∈ vs.take k, v / 2 ^ wd = 0) ∧ w1 = wr) (fun i _ => n - (intOf i).toNat)
  case atStart => exact ⟨0, rfl, Nat.zero_le _, hide (fun v hv => by simp at hv), rfl⟩
  case round =>
    obtain ⟨k, rfl, hk, HS, rfl⟩ := hrel
    by_cases hlt : k < n
    · obtain ⟨b, o, v, rfl, hbl, hv, e0⟩ := HV.out.at_ hlt
      have hkn : (k : Int) < (n : Int) := by omega
      have ht := take_at hv
      obtain ⟨q, hq⟩ : ∃ q, q = v / 2 ^ wd := ⟨_, rfl⟩
      have e1 : ((v : Int) / 2 ^ wd) = (q : Int) := by rw [hq]; simp
      have HQ := hide hq
      have HT := hide ht
      clear hv ht hlt hq
      by_cases hq0 : q = 0
      · have q0 : ((q : Int) != 0) = false := by simp [hq0]
        have HQ0 := hide hq0
        clear hq0
        go_wp2
        go_roundw
        case rel => exact ⟨k + 1, by go_num, by omega, hide (fun u hu => by
            rw [HT.out] at hu
            rcases List.mem_append.1 hu with h | h
            · exact HS.out u h
            · rw [List.mem_singleton.1 h, ← HQ.out]; exact HQ0.out), trivial⟩
        case measure => simp [intOf]; omega
      · have q0 : ((q : Int) != 0) = true := by rw [bne_iff_ne]; omega
        clear hq0
        go_wp2
        go_ret
        exact ⟨rfl, HB1.out⟩
    · obtain rfl : k = n := by omega
      have hall : vs.take k = vs := List.take_of_length_le (by rw [← HN.out]; exact Nat.le_refl _)
      rw [hall] at HS
      clear hall hlt hk
      obtain ⟨m, hm2⟩ : ∃ m, m = k * wd := ⟨_, rfl⟩
      have m1 : m ≤ 128 * 31 := by rw [hm2]; exact Nat.mul_le_mul hn128 hwd
      have em : (k : Int) * (wd : Int) = (m : Int) := by rw [hm2]; simp
      obtain ⟨p, hp⟩ : ∃ p, p = (packM vs).length := ⟨_, rfl⟩
      have HBS := hide (bound_small wd vs hwd HOK.out.1 HS.out)
      have HBO := hide (fun (i : Nat) => bound_one wd vs i gr hwd HOK.out.1 HS.out HOK.out.2 hgr)
      rw [← HN.out, ← hm2, ← hp] at HBS
      rw [← HN.out, ← hm2] at HBO
      have HP := hide hp
      clear hp hm2 HS
      go_wp2_with fail
      refine (pack_any a k cap l w1 HI.out).mono ?_
      rintro e w2 ⟨v2, rfl, -, hgood, hb2⟩
      have ho := hgood H0.out
      rw [← HVS.out, ← HP.out] at ho
      rw [H0.out]
      obtain ⟨y1, A1, c1, rfl, y2, r1, y4, y5⟩ := own_form ho
      have HB2 := hide (bl_trans HB1.out hb2)
      have HI2 := hide (HI.out.below hb2)
      clear y1 y2 r1 y4 y5 ho hgood hb2
      obtain ⟨q, hq⟩ : ∃ q, q = nby m := ⟨_, rfl⟩
      have eq8 : ((m : Int) + 7) / 8 = (q : Int) := by rw [hq]; unfold nby; omega
      have q1 : q ≤ 1000 := by rw [hq]; unfold nby; omega
      rw [← hq] at HBS HBO
      clear hq
      by_cases h128 : k = 128
      · have t0 : ((k : Int) == 128) = true := by rw [beq_iff_eq]; omega
        have hbs : p ≤ 3 + q + 1 := by have := HBS.out; rwa [if_pos h128] at this
        have HBO2 := hide (fun i => show (packM (vs.set i gr)).length ≤ 3 + q + 1 + 7 by have := HBO.out i; rwa [if_pos h128] at this)
        have t1 : ¬ (3 + (q : Int) + 1) < (p : Int) := by omega
        clear h128 HBO HBS
        by_cases g1 : pa < 0
        · go_wp2_with fail
          refine (awake_any w2).mono ?_
          rintro e w3 ⟨rfl, hb3⟩
          go_wp2
          go_ret
          exact ⟨rfl, bl_trans HB2.out hb3⟩
        by_cases g2 : (k : Int) ≤ pa
        · go_wp2_with fail
          refine (awake_any w2).mono ?_
          rintro e w3 ⟨rfl, hb3⟩
          go_wp2
          go_ret
          exact ⟨rfl, bl_trans HB2.out hb3⟩
        obtain ⟨at_, rfl⟩ := Int.eq_ofNat_of_zero_le (show 0 ≤ pa by omega)
        have hat : at_ < k := by omega
        have LI := hide (show (l.map iv).length = k by rw [List.length_map]; exact HI2.out.1.symm)
        go_wp2_with (at_builtin; (refine wpList_append_rd _ rfl (.const (.slice none 0 0)) (.tmp 86) 22 rfl w2.heap.size 3 i2 _ 1 8 Try.underlying22 hi2 hz0 hz1 hz2 rfl (by omega) (.slice none 0 0) 0 [] rfl (World.ownsRow_nil _ _ _ _) a k cap (l.map iv) rfl (by rw [Nat.mul_one]; exact LI.out) HI2.out.2 (ivs_one _) (by simp only [maxLen]; omega) (by omega) (Nat.le_refl _) ?_); intro v3 w3 ho3 hg3 hat3; have HB3 := hide (bl_grown HB2.out hg3 (fun k h => by simp [Value.ownBlock] at h)); rw [Nat.zero_add, List.nil_append] at ho3; obtain ⟨g, c3, rfl, hg⟩ := own_some ho3 (by omega); have HS3 := hide (own_set ho3 hat (iv gr)); have HAT := hide (own_at ho3 hat); obtain ⟨⟨vq, _, mq⟩, mf⟩ := HAT.out; have HGB := hide (show w.heap.size ≤ g from Nat.le_trans HB2.out.size hg); clear ho3 hg3 hat3)
        have HI4 : Hid (IsI (w3.setCell ⟨g, at_, none⟩ (.int .i64 (gr : Int))) (some ⟨g, 0, none⟩) k (l.set at_ (gr : Int))) := by
          refine hide ⟨by rw [List.length_set]; exact HI2.out.1, ?_⟩
          obtain ⟨_, A4, c4, he, _, r4, _, _⟩ := own_form HS3.out
          injection he with he1 he2 he3
          rw [List.map_set, he1]
          exact r4
        have HB4 : Hid (Below w.heap.size w (w3.setCell ⟨g, at_, none⟩ (.int .i64 (gr : Int)))) := hide (bl_set HB3.out HGB.out _)
        have HC4 : Hid (chkV (l.set at_ (gr : Int)) = 0 ∧ natsOf (l.set at_ (gr : Int)) = vs.set at_ gr) := by
          have e : l.set at_ (gr : Int) = (vs.set at_ gr).map Int.ofNat := by rw [List.map_set, ← HEQ.out]; rfl
          refine hide ⟨?_, by rw [e, natsOf_of]⟩
          rw [e]
          refine chkV_ok _ ⟨by rw [List.length_set]; exact HOK.out.1, fun v hv => ?_⟩
          rcases List.mem_or_eq_of_mem_set hv with h | rfl
          · exact HOK.out.2 v h
          · exact hgr
        generalize w3.setCell ⟨g, at_, none⟩ (.int .i64 (gr : Int)) = w4 at *
        refine (pack_any _ k c3 _ w4 HI4.out).mono ?_
        rintro e w5 ⟨v5, rfl, -, hgood, hb5⟩
        have ho := hgood HC4.out.1
        rw [HC4.out.2] at ho
        rw [HC4.out.1]
        obtain ⟨r, hr⟩ : ∃ r, r = (packM (vs.set at_ gr)).length := ⟨_, rfl⟩
        rw [← hr] at ho
        have hrb : r ≤ (3 + q + 1) + 7 := by rw [hr]; exact HBO2.out at_
        obtain ⟨y1, A5, c5, rfl, y2, r1, y4, y5⟩ := own_form ho
        have HB5 := hide (bl_trans HB4.out hb5)
        clear y1 y2 r1 y4 y5 ho hgood hb5 hr
        have t9 : (r : Int) ≤ (((3 + q + 1) : Nat) : Int) + 7 := by omega
        go_wp2_with fail
        refine (awake_any w5).mono ?_
        rintro e w6 ⟨rfl, hb6⟩
        go_wp2
        go_ret
        exact ⟨rfl, bl_trans HB5.out hb6⟩
      · have t0 : ((k : Int) == 128) = false := by rw [beq_eq_false_iff_ne]; omega
        have hbs : p ≤ 3 + q := by have := HBS.out; rwa [if_neg h128] at this
        have HBO2 := hide (fun i => show (packM (vs.set i gr)).length ≤ 3 + q + 7 by have := HBO.out i; rwa [if_neg h128] at this)
        have t1 : ¬ (3 + (q : Int)) < (p : Int) := by omega
        clear h128 HBO HBS
        by_cases g1 : pa < 0
        · go_wp2_with fail
          refine (awake_any w2).mono ?_
          rintro e w3 ⟨rfl, hb3⟩
          go_wp2
          go_ret
          exact ⟨rfl, bl_trans HB2.out hb3⟩
        by_cases g2 : (k : Int) ≤ pa
        · go_wp2_with fail
          refine (awake_any w2).mono ?_
          rintro e w3 ⟨rfl, hb3⟩
          go_wp2
          go_ret
          exact ⟨rfl, bl_trans HB2.out hb3⟩
        obtain ⟨at_, rfl⟩ := Int.eq_ofNat_of_zero_le (show 0 ≤ pa by omega)
        have hat : at_ < k := by omega
        have LI := hide (show (l.map iv).length = k by rw [List.length_map]; exact HI2.out.1.symm)
        go_wp2_with (at_builtin; (refine wpList_append_rd _ rfl (.const (.slice none 0 0)) (.tmp 86) 22 rfl w2.heap.size 3 i2 _ 1 8 Try.underlying22 hi2 hz0 hz1 hz2 rfl (by omega) (.slice none 0 0) 0 [] rfl (World.ownsRow_nil _ _ _ _) a k cap (l.map iv) rfl (by rw [Nat.mul_one]; exact LI.out) HI2.out.2 (ivs_one _) (by simp only [maxLen]; omega) (by omega) (Nat.le_refl _) ?_); intro v3 w3 ho3 hg3 hat3; have HB3 := hide (bl_grown HB2.out hg3 (fun k h => by simp [Value.ownBlock] at h)); rw [Nat.zero_add, List.nil_append] at ho3; obtain ⟨g, c3, rfl, hg⟩ := own_some ho3 (by omega); have HS3 := hide (own_set ho3 hat (iv gr)); have HAT := hide (own_at ho3 hat); obtain ⟨⟨vq, _, mq⟩, mf⟩ := HAT.out; have HGB := hide (show w.heap.size ≤ g from Nat.le_trans HB2.out.size hg); clear ho3 hg3 hat3)
        have HI4 : Hid (IsI (w3.setCell ⟨g, at_, none⟩ (.int .i64 (gr : Int))) (some ⟨g, 0, none⟩) k (l.set at_ (gr : Int))) := by
          refine hide ⟨by rw [List.length_set]; exact HI2.out.1, ?_⟩
          obtain ⟨_, A4, c4, he, _, r4, _, _⟩ := own_form HS3.out
          injection he with he1 he2 he3
          rw [List.map_set, he1]
          exact r4
        have HB4 : Hid (Below w.heap.size w (w3.setCell ⟨g, at_, none⟩ (.int .i64 (gr : Int)))) := hide (bl_set HB3.out HGB.out _)
        have HC4 : Hid (chkV (l.set at_ (gr : Int)) = 0 ∧ natsOf (l.set at_ (gr : Int)) = vs.set at_ gr) := by
          have e : l.set at_ (gr : Int) = (vs.set at_ gr).map Int.ofNat := by rw [List.map_set, ← HEQ.out]; rfl
          refine hide ⟨?_, by rw [e, natsOf_of]⟩
          rw [e]
          refine chkV_ok _ ⟨by rw [List.length_set]; exact HOK.out.1, fun v hv => ?_⟩
          rcases List.mem_or_eq_of_mem_set hv with h | rfl
          · exact HOK.out.2 v h
          · exact hgr
        generalize w3.setCell ⟨g, at_, none⟩ (.int .i64 (gr : Int)) = w4 at *
        refine (pack_any _ k c3 _ w4 HI4.out).mono ?_
        rintro e w5 ⟨v5, rfl, -, hgood, hb5⟩
        have ho := hgood HC4.out.1
        rw [HC4.out.2] at ho
        rw [HC4.out.1]
        obtain ⟨r, hr⟩ : ∃ r, r = (packM (vs.set at_ gr)).length := ⟨_, rfl⟩
        rw [← hr] at ho
        have hrb : r ≤ (3 + q) + 7 := by rw [hr]; exact HBO2.out at_
        obtain ⟨y1, A5, c5, rfl, y2, r1, y4, y5⟩ := own_form ho
        have HB5 := hide (bl_trans HB4.out hb5)
        clear y1 y2 r1 y4 y5 ho hgood hb5 hr
        have t9 : (r : Int) ≤ (((3 + q) : Nat) : Int) + 7 := by omega
        go_wp2_with fail
        refine (awake_any w5).mono ?_
        rintro e w6 ⟨rfl, hb6⟩
        go_wp2
        go_ret
        exact ⟨rfl, bl_trans HB5.out hb6⟩
end blockBounds
end Go.Proofs.Ytchcaidcohgjbaa
