/- Equality of lists of records; the walks of the laws JournalBack, JournalJoins and JournalEncodes. -/
import Derived.Test.YthkncfenhfieoaaJLawW
namespace Go.Proofs.Ythkncfenhfieoaa
open Go.RowKit
set_option linter.unusedVariables false
set_option linter.unusedSimpArgs false
set_option maxRecDepth 100000 in
theorem same_any (a b : Option Addr) (n c d : Nat) (l : List Rec) (w : World) (ha : IsRecs w a n l) (hb : IsRecs w b n l) (hn : n ≤ 1000) (hc : n ≤ c) (hd : n ≤ d) :
    Calls Try.prog 16 #[.slice a n c, .slice b n d] w fun e w' => e = .returned (.bool true) ∧ Below w.heap.size w w' := by
  have HA := hide ha
  have HB := hide hb
  clear ha hb
  go_enter Try.func16, Try.ntmps16
  go_wp2_with fail
  go_loopw [13] (fun i wr => ∃ k : Nat, i = .int .i64 (k : Int) ∧ k ≤ n ∧ Below w.heap.size w wr) (fun i _ => n - (intOf i).toNat)
  case atStart => exact ⟨0, rfl, Nat.zero_le _, bl_refl w⟩
  case round =>
    obtain ⟨k, rfl, hk, hb⟩ := hrel
    by_cases hlt : k < n
    · obtain ⟨b1, o1, ⟨k1, p1⟩, rfl, hl1, hg1, e0, e1⟩ := (HA.out.below hb).at_ hlt
      obtain ⟨b2, o2, ⟨k2, p2⟩, rfl, hl2, hg2, e2, e3⟩ := (HB.out.below hb).at_ hlt
      rw [hg1] at hg2
      injection hg2 with hg2
      injection hg2 with q1 q2
      subst q1 q2
      simp only [] at e0 e1 e2 e3
      obtain ⟨SP, hSP⟩ : ∃ SP, SP = bstr p1 := ⟨_, rfl⟩
      rw [← hSP] at e1 e3
      clear hg1 hSP
      have hkn : (k : Int) < (n : Int) := by omega
      go_wp2_with fail
      have f0 : ∀ wx, CB wr.drew wx → wx.cell? ⟨b1, o1 + k * 2, none⟩ = some (.int .i64 k1) := fun wx h => h.cell e0
      have f1 : ∀ wx, CB wr.drew wx → wx.cell? ⟨b1, o1 + k * 2 + 1, none⟩ = some (.string SP) := fun wx h => h.cell e1
      have f2 : ∀ wx, CB wr.drew wx → wx.cell? ⟨b2, o2 + k * 2, none⟩ = some (.int .i64 k1) := fun wx h => h.cell e2
      have f3 : ∀ wx, CB wr.drew wx → wx.cell? ⟨b2, o2 + k * 2 + 1, none⟩ = some (.string SP) := fun wx h => h.cell e3
      refine wp_region_K 8 (by kernel_rfl) (by kernel_rfl) (fun Q HQ => ?_)
      simp only [List.take_succ_cons, List.take_zero, List.map_cons, List.map_nil]
      repeat
        first | apply wpS_c rfl | apply wpS_gc rfl (guard_mk rfl rfl)
        focus
          intro ev wx hC hx
          (try simp [Op.operands, Call.operands, opndS, Slot.holds] at hx)
          go_simp
          try (first | exact rfl | exact ⟨Below.refl _ _, rfl⟩)
          done
        dsimp only [setS, List.set]
      refine wpS_nil (HQ _ fun w3 hC3 => ?_)
      simp only [closeS, List.drop_succ_cons, List.drop_zero, List.drop_nil]
      clear HQ f0 f1 f2 f3
      have hb3 : Below w.heap.size w w3 := hb.trans (hC3.below.mono hb.size)
      go_wp2
      go_roundw
      case rel => exact ⟨k + 1, by go_num, by omega, hb3⟩
      case measure => simp [intOf]; omega
    · obtain rfl : k = n := by omega
      go_wp2
      go_ret
      exact ⟨rfl, hb⟩
theorem all_small {l : List Rec} (h : ∀ r ∈ l, small r) : allV l = .returned (.tuple #[.string (bstr (encL l)), .int .i64 0]) := allV_ok (small_enc h)
theorem small_p {l : List Rec} (h : ∀ r ∈ l, small r) : ∀ r ∈ l, r.2.length ≤ 1000 := fun r hr => by have := (h r hr).2; omega
theorem scan_enc {l : List Rec} (h : ∀ r ∈ l, small r) : IsScan (encL l) l [] := ⟨by simp, fun r hr => small_ok (h r hr), rfl⟩
namespace journalBack
set_option maxRecDepth 100000 in
theorem walk (a : Option Addr) (len cap : Nat) (z : List Int) (w : World) (w0 : IsRow .i64 w a len cap z) :
    Calls Try.prog 7 #[.slice a len cap] w fun e w' => e = .returned (.bool true) ∧ Below w.heap.size w w' := by
  obtain ⟨zs, hl, hr, hc, hm, hn, hw⟩ := w0.ints
  have HL := hide hl.symm
  have HR := hide hr
  clear hl hr hn hw w0
  go_enter Try.func7, Try.ntmps7
  go_wp2_with fail
  refine (tnew_any a len cap zs w HL.out hc hm HR.out).mono ?_
  rintro e w1 ⟨rfl, ht1, hb1⟩
  go_wp2_with fail
  refine (lrec_any w.heap.size 6 6 w1 rfl (by decide) ht1).mono ?_
  rintro e w2 ⟨v, l, rfl, hown, hsm, hll, hg⟩
  have hb2 : Below w.heap.size w w2 := bl_grown hb1 hg (fun k h => by cases h; exact Nat.le_refl _)
  obtain ⟨a2, c2, rfl, hc2, hrec⟩ := own_recs hown rfl
  have HREC := hide hrec
  have HSM := hide hsm
  obtain ⟨T, hT⟩ : ∃ T, T = bstr (encL l) := ⟨_, rfl⟩
  have HT := hide hT
  obtain ⟨n, hn⟩ : ∃ n, n = (encL l).length := ⟨_, rfl⟩
  have hTn : T.size = n := by rw [hn]; exact str_size hT
  have hnb : n ≤ 1000 := by rw [hn]; have := small_len hsm; omega
  have HN := hide hn
  clear ht1 hown hg hrec hsm hT hn
  go_wp2_with fail
  refine (ea_any a2 l.length c2 l w2 HREC.out (small_p HSM.out) (by omega)).mono ?_
  rintro e w3 ⟨rfl, hb3⟩
  rw [all_small HSM.out, ← HT.out]
  go_wp2_with fail
  refine (scan_any T (encL l) l [] w3 HT.out (by rw [← HN.out]; omega) (scan_enc HSM.out)).mono ?_
  rintro e w4 ⟨v4, rfl, hown4, hb4⟩
  obtain ⟨a4, c4, rfl, hc4, hrec4⟩ := own_recs hown4 rfl
  rw [show stateM [] = 0 from rfl, ← HN.out]
  have HREC4 := hide hrec4
  clear hown4 hrec4
  go_wp2_with fail
  refine (same_any a2 a4 l.length c2 c4 l w4 ((HREC.out.below hb3).below hb4) HREC4.out (by omega) hc2 hc4).mono ?_
  rintro e w5 ⟨rfl, hb5⟩
  go_wp2_with fail
  refine (known_any _).mono ?_
  rintro e w6 ⟨rfl, hb6⟩
  go_wp2
  go_ret
  exact ⟨rfl, bl_trans hb2 (bl_trans hb3 (bl_trans hb4 (bl_trans hb5 hb6)))⟩
end journalBack
namespace journalJoins
set_option maxHeartbeats 1000000 in
set_option maxRecDepth 100000 in
theorem walk (a : Option Addr) (len cap : Nat) (z : List Int) (b : Option Addr) (len1 cap1 : Nat) (z1 : List Int) (w : World) (w0 : IsRow .i64 w a len cap z) (w1 : IsRow .i64 w b len1 cap1 z1) :
    Calls Try.prog 8 #[.slice a len cap, .slice b len1 cap1] w fun e w' => e = .returned (.bool true) ∧ Below w.heap.size w w' := by
  obtain ⟨zs, hl, hr, hc, hm, _, _⟩ := w0.ints
  obtain ⟨ys, hl1, hr1, hc1, hm1, _, _⟩ := w1.ints
  have HL := hide hl.symm
  have HR := hide hr
  have HL1 := hide hl1.symm
  have HR1 := hide hr1
  obtain ⟨i0, hi0, hz0, hz1, hz2⟩ := info_parts info_rec2
  clear hl hr hl1 hr1 w0 w1
  go_enter Try.func8, Try.ntmps8
  go_wp2_with fail
  refine (tnew_any a len cap zs w HL.out hc hm HR.out).mono ?_
  rintro e w1 ⟨rfl, ht1, hb1⟩
  go_wp2_with fail
  refine (lrec_any w.heap.size 4 4 w1 rfl (by decide) ht1).mono ?_
  rintro e w2 ⟨v, l, rfl, hown, hsm, hll, hg⟩
  have hb2 : Below w.heap.size w w2 := bl_grown hb1 hg (fun k h => by cases h; exact Nat.le_refl _)
  obtain ⟨a2, c2, rfl, hc2, hrec⟩ := own_recs hown rfl
  have HREC := hide hrec
  have HSM := hide hsm
  clear ht1 hown hg hrec hsm hb1
  go_wp2_with fail
  refine (tnew_any b len1 cap1 ys w2 HL1.out hc1 hm1 (HR1.out.below hb2)).mono ?_
  rintro e w3 ⟨rfl, ht3, hb3⟩
  go_wp2_with fail
  refine (lrec_any w2.heap.size 4 4 w3 rfl (by decide) ht3).mono ?_
  rintro e w4 ⟨v4, m, rfl, hown4, hsm4, hll4, hg4⟩
  have hb24 : Below w2.heap.size w2 w4 := bl_grown hb3 hg4 (fun k h => by cases h; exact Nat.le_refl _)
  obtain ⟨a4, c4, rfl, hc4, hrec4⟩ := own_recs hown4 rfl
  have HREC4 := hide hrec4
  have HRECL := hide (HREC.out.below hb24)
  have HSM4 := hide hsm4
  have hb4 := bl_trans hb2 hb24
  have HAM := hide (all_small HSM.out)
  have HAM4 := hide (all_small HSM4.out)
  have hsml : ∀ r ∈ l ++ m, small r := fun r hr => by
    rcases List.mem_append.1 hr with h | h
    · exact HSM.out r h
    · exact hsm4 r h
  have HALL := hide hsml
  have hlen1 := small_len HSM.out
  have hlen2 := small_len hsm4
  have HLE := hide (show (encL l).length + (encL m).length ≤ 1000 by omega)
  clear ht3 hown4 hg4 hrec4 hsm4 hb3 hsml hlen1 hlen2
  obtain ⟨T, hT⟩ : ∃ T, T = bstr (encL l) := ⟨_, rfl⟩
  obtain ⟨U, hU⟩ : ∃ U, U = bstr (encL m) := ⟨_, rfl⟩
  obtain ⟨V, hV⟩ : ∃ V, V = bstr (encL l ++ encL m) := ⟨_, rfl⟩
  have HT := hide hT
  have HU := hide hU
  have HV := hide hV
  clear hT hU hV
  go_wp2_with fail
  refine (ea_any a2 l.length c2 l w4 HRECL.out (small_p HSM.out) (by omega)).mono ?_
  rintro e w5 ⟨rfl, hb5⟩
  rw [HAM.out, ← HT.out]
  go_wp2_with fail
  refine (ea_any a4 m.length c4 m w5 (HREC4.out.below hb5) (small_p HSM4.out) (by omega)).mono ?_
  rintro e w6 ⟨rfl, hb6⟩
  rw [HAM4.out, ← HU.out]
  have hb46 := bl_trans hb5 hb6
  have HRL6 := hide (HRECL.out.below hb46)
  have HRM6 := hide (HREC4.out.below hb46)
  have hb06 := bl_trans hb4 hb46
  have own0 : (w6.alloc (.cells #[] 37)).ownsRow w6.heap.size 37 2 (.slice (some ⟨w6.heap.size, 0, none⟩) 0 0) 0 [] := own_empty (Nat.le_refl _) (heap_alloc_new w6 _)
  have one2 : ∀ l : List Rec, ∀ u ∈ l.flatMap recC, u.oneCell' = true := fun l u hu => by
    obtain ⟨r, _, hr⟩ := List.mem_flatMap.1 hu
    simp [recC] at hr
    rcases hr with rfl | rfl <;> rfl
  clear hb5 hb6 hb4 hb24 hb2
  go_wp2_with (first
    | (at_builtin; (refine wpList_append_rd _ rfl (.tmp 30) (.tmp 31) 26 rfl w6.heap.size 37 i0 _ 2 24 Try.underlying26 hi0 hz0 hz1 hz2 rfl (by omega) _ 0 [] rfl own0 a2 l.length c2 (l.flatMap recC) rfl (recs_length l) (HRL6.out.2.alloc _) (one2 l) (by simp only [maxLen]; omega) (by omega) (by simp) ?_); intro v7 w7 hown7 hg7 hat7)
    | (at_builtin; (refine wpList_append_rd _ rfl (.tmp 32) (.tmp 33) 26 rfl w6.heap.size 37 i0 _ 2 24 Try.underlying26 hi0 hz0 hz1 hz2 rfl (by omega) v7 (0 + l.length) ([] ++ l.flatMap recC) rfl hown7 a4 m.length c4 (m.flatMap recC) rfl (recs_length m) (HRM6.out.2.below (bl_grown (bl_alloc (bl_refl w6) _) hg7 (fun k h => by cases h; exact Nat.le_refl _))) (one2 m) (by simp only [maxLen]; omega) (by omega) (by have := hg7.size; simp at this; omega) ?_); intro v8 w8 hown8 hg8 hat8))
  have hb67 : Below w6.heap.size w6 w7 := bl_grown (bl_alloc (bl_refl w6) _) hg7 (fun k h => by cases h; exact Nat.le_refl _)
  have hb68 : Below w6.heap.size w6 w8 := bl_grown hb67 hg8 (fun k h => (hown7.lt k h).1)
  have hown9 : w8.ownsRow w6.heap.size 37 2 v8 (l ++ m).length ((l ++ m).flatMap recC) := by
    rw [List.flatMap_append, List.length_append]
    simpa using hown8
  obtain ⟨a8, c8, rfl, hc8, hrec8⟩ := own_recs hown9 rfl
  have HREC8 := hide hrec8
  have hvv := all_small HALL.out
  rw [encL_app] at hvv
  have HVV := hide hvv
  have add1 := fun (w : World) => add_str (P := Try.prog) HT.out HU.out (by have := HLE.out; omega) w
  rw [← HV.out] at add1
  clear hown7 hown8 hown9 hg7 hg8 hat7 hat8 hrec8 hvv
  refine (ea_any a8 _ c8 (l ++ m) w8 HREC8.out (small_p HALL.out) (by rw [List.length_append]; omega)).mono ?_
  rintro e w9 ⟨rfl, hb9⟩
  rw [HVV.out, ← HV.out]
  go_wp2_with fail
  refine (known_any _).mono ?_
  rintro e w10 ⟨rfl, hb10⟩
  go_wp2
  go_ret
  exact ⟨rfl, bl_trans hb06 (bl_trans hb68 (bl_trans hb9 hb10))⟩
end journalJoins
end Go.Proofs.Ythkncfenhfieoaa
