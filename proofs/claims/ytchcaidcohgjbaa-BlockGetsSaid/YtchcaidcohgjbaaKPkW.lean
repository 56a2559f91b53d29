/- The walks of the laws BlockPacks and BlockCosts. -/
import Derived.Test.YtchcaidcohgjbaaKAwW
namespace Go.Proofs.Ytchcaidcohgjbaa
open Go.RowKit
set_option linter.unusedVariables false
set_option linter.unusedSimpArgs false
/-- A slice of ints that came in: a list of numbers, read. -/
theorem IsRow.ints {w : World} {a : Option Addr} {len cap : Nat} {zs : List Int} (h : IsRow .i64 w a len cap zs) :
    ∃ l : List Int, IsI w a len l ∧ len ≤ cap ∧ cap ≤ maxLen ∧ ∀ x ∈ l, (Lit.int .i64 x).wf = true := by
  rcases h with ⟨rfl, rfl, rfl, rfl⟩ | ⟨x, rfl, hl, hm, hz, hc, hw⟩
  · exact ⟨[], ⟨rfl, .inl rfl⟩, Nat.le_refl _, Nat.zero_le _, fun _ h => by simp at h⟩
  · refine ⟨zs.take len, ⟨by simp; omega, ?_⟩, hl, hm, fun y hy => hw y (List.mem_of_mem_take hy)⟩
    rcases Nat.eq_zero_or_pos len with h0 | h0
    · subst h0; exact .inl (by simp)
    · have hx0 := hc 0 (by omega)
      have hsp : x.spot = none := by simpa [Addr.add] using World.cell?_spot hx0
      obtain ⟨b, o, sp⟩ := x
      subst hsp
      refine .inr ⟨b, o, rfl, lt_heap (a := (⟨b, o, none⟩ : Addr).add 0) hx0, fun k v hv => ?_⟩
      rw [List.getElem?_map, Option.map_eq_some_iff] at hv
      obtain ⟨n, hn, rfl⟩ := hv
      have hk : k < zs.length := by
        have := (List.getElem?_eq_some_iff.1 hn).1
        simp at this; omega
      have h1 := hc k hk
      rw [Addr.add_lit] at h1
      rw [h1]
      have hnz : zs.getD k 0 = n := by
        rw [List.getElem?_take] at hn
        split at hn
        · simp [List.getD, hn]
        · cases hn
      rw [hnz]
      rfl

namespace blockCosts
set_option maxRecDepth 100000 in
theorem walk (a : Option Addr) (n cap : Nat) (z : List Int) (x : Int) (w : World) (w0 : IsRow .i64 w a n cap z) (w1 : (Lit.int .i64 x).wf = true) :
    Calls Try.prog 5 #[.slice a n cap, .int .i64 x] w fun e w' => e = .returned (.bool true) ∧ Below w.heap.size w w' := by
  obtain ⟨l, hl, hc, hm, hz⟩ := w0.ints
  have HI := hide hl
  clear hl hz w0 w1
  by_cases h2 : 130 < n
  · go_enter Try.func5, Try.ntmps5
    go_wp2
    go_ret
    exact ⟨rfl, bl_refl _⟩
  go_enter Try.func5, Try.ntmps5
  go_wp2_with fail
  refine (costs_any a n cap l x w HI.out).mono ?_
  rintro e w' ⟨rfl, rfl⟩
  go_wp2_with fail
  refine (rcheck_any a n cap l w HI.out).mono ?_
  rintro e w' ⟨rfl, rfl⟩
  by_cases h0 : chkV l = 0
  · have HR := hide (show costM l x = if x < 0 ∨ 31 < x then (0, 1) else (costF (natsOf l) x.toNat, 0) from if_neg (by simp [h0]))
    have HV := hide (HI.out.nats h0)
    have HOK := hide (natsOf_ok l h0).2
    rw [h0]
    clear h0
    by_cases h1 : x < 0
    · rw [show costM l x = (0, 1) from HR.out.trans (if_pos (.inl h1))]
      go_wp2_with fail
      refine (awake_any w).mono ?_
      rintro e w2 ⟨rfl, hb⟩
      go_wp2
      go_ret
      exact ⟨rfl, hb⟩
    by_cases h3 : 31 < x
    · rw [show costM l x = (0, 1) from HR.out.trans (if_pos (.inr h3))]
      go_wp2_with fail
      refine (awake_any w).mono ?_
      rintro e w2 ⟨rfl, hb⟩
      go_wp2
      go_ret
      exact ⟨rfl, hb⟩
    rw [show costM l x = (costF (natsOf l) x.toNat, 0) from HR.out.trans (if_neg (by omega))]
    obtain ⟨k, rfl⟩ := Int.eq_ofNat_of_zero_le (show 0 ≤ x by omega)
    rw [Int.toNat_natCast]
    have HF := hide (show costF (natsOf l) k = (encM k (natsOf l)).length from rfl)
    obtain ⟨c, hcc⟩ : ∃ c, c = costF (natsOf l) k := ⟨_, rfl⟩
    rw [← hcc] at HF ⊢
    clear hcc
    go_wp2_with fail
    refine (rbytes_any a n cap _ k _ w HV.out HOK.out rfl (by omega)).mono ?_
    rintro e w1 ⟨v1, rfl, ho1, hb1⟩
    rw [← HF.out] at ho1
    obtain ⟨y1, A1, d1, rfl, y2, y3, y4, y5⟩ := own_form ho1
    have HB1 := hide hb1
    clear y1 y2 y3 y4 y5 ho1 hb1
    go_wp2_with fail
    refine (awake_any w1).mono ?_
    rintro e w2 ⟨rfl, hb⟩
    go_wp2
    go_ret
    exact ⟨rfl, bl_trans HB1.out hb⟩
  · rw [show costM l x = (0, chkV l) from if_pos h0]
    obtain ⟨c, hcc⟩ : ∃ c, c = chkV l := ⟨_, rfl⟩
    rw [← hcc]
    have hc0 : (((c : Nat) : Int) != 0) = true := by rw [bne_iff_ne]; omega
    clear hcc h0
    go_wp2_with fail
    refine (awake_any w).mono ?_
    rintro e w2 ⟨rfl, hb⟩
    go_wp2
    go_ret
    exact ⟨rfl, hb⟩
end blockCosts
namespace blockPacks
set_option maxHeartbeats 1000000 in
set_option maxRecDepth 100000 in
theorem walk (a : Option Addr) (n cap : Nat) (z : List Int) (w : World) (w0 : IsRow .i64 w a n cap z) :
    Calls Try.prog 4 #[.slice a n cap] w fun e w' => e = .returned (.bool true) ∧ Below w.heap.size w w' := by
  obtain ⟨l, hl, hc, hm, hz⟩ := w0.ints
  have HI := hide hl
  clear hl hz w0
  by_cases h2 : 130 < n
  · go_enter Try.func4, Try.ntmps4
    go_wp2
    go_ret
    exact ⟨rfl, bl_refl _⟩
  go_enter Try.func4, Try.ntmps4
  go_wp2_with fail
  refine (pack_any a n cap l w HI.out).mono ?_
  rintro e w1 ⟨v1, rfl, hbad, hgood, hb1⟩
  have HB1 := hide hb1
  clear hb1
  go_wp2_with fail
  refine (rcheck_any a n cap l w1 (HI.out.below HB1.out)).mono ?_
  rintro e w' ⟨rfl, rfl⟩
  by_cases h0 : chkV l = 0
  · have HO := hide (hgood h0)
    have H0 := hide h0
    rw [h0]
    clear h0 hbad hgood
    obtain ⟨y1, A1, c1, rfl, y2, r1, y4, y5⟩ := own_form HO.out
    obtain ⟨p, hp⟩ : ∃ p, p = packM (natsOf l) := ⟨_, rfl⟩
    rw [← hp] at r1
    obtain ⟨m, hm2⟩ : ∃ m, m = (packM (natsOf l)).length := ⟨_, rfl⟩
    rw [← hm2]
    have k1 := fun (wx : World) (h : CB w1.drew wx) => run_bytes_str (P := Try.prog) wx 28 9 5 A1 m c1 p Try.underlying28 Try.underlying5 Try.underlying9 (by rw [hm2, hp]) (Rd.below r1 h.below)
    have HP := hide hp
    have HM := hide hm2
    clear hp hm2 y1 y2 r1 y4 y5
    go_wp2_with fail
    refine wp_region_K 21 (by kernel_rfl) (by kernel_rfl) (fun Q HQ => ?_)
    simp only [List.take_succ_cons, List.take_zero, List.map_cons, List.map_nil]
    repeat
      first | apply wpS_c rfl | apply wpS_gc rfl (guard_mk rfl rfl)
      focus
        intro ev wx hC hx
        (try simp [Op.operands, Call.operands, opndS, Slot.holds] at hx)
        go_simp
        try (first | exact rfl | exact ⟨Below.refl _ _, rfl⟩)
        done
      dsimp only [setS, List.set]
    refine wpS_gp (R := FreshRow w.heap.size 5 m (p.map u8v)) rfl (stab_fresh _ _ _ _) (guard_mk rfl rfl) ?_ ?_
    focus
      intro ev wx hC hx
      (try simp [Op.operands, Call.operands, opndS, Slot.holds] at hx)
      go_simp
      refine (rpack_any a n cap l _ ((HI.out.below HB1.out).below hC.below) H0.out).mono ?_
      rintro e w' ⟨v, rfl, hown, hb⟩
      rw [← HP.out, show p.length = m by rw [HP.out, HM.out]] at hown
      have s1 := HB1.out.size
      have s2 := hC.below.size
      have s3 := hb.size
      exact ⟨v, rfl, hb, by omega, own_base hown (by omega)⟩
    dsimp only [setS, List.set]
    refine wpS_gc rfl (guard_mk rfl rfl) (opS_str_fresh (.tmp 40) 28 9 5 rfl Try.underlying28 Try.underlying5 Try.underlying9 w.heap.size m p rfl) ?_
    dsimp only [setS, List.set]
    repeat
      first | apply wpS_c rfl | apply wpS_gc rfl (guard_mk rfl rfl)
      focus
        intro ev wx hC hx
        (try simp [Op.operands, Call.operands, opndS, Slot.holds] at hx)
        go_simp
        try (first | exact rfl | exact ⟨Below.refl _ _, rfl⟩ | (go_at_call 12; refine (awake_any _).mono ?_; rintro e w' ⟨rfl, hb⟩; exact ⟨rfl, hb⟩) | (go_at_call 13; refine (width_any a n cap l _ ((HI.out.below HB1.out).below hC.below)).mono ?_; rintro e w' ⟨rfl, hb⟩; exact ⟨rfl, hb⟩) | (go_at_call 15; refine (rwidth_any a n cap l _ ((HI.out.below HB1.out).below hC.below)).mono ?_; rintro e w' ⟨rfl, hb⟩; exact ⟨rfl, hb⟩))
        done
      dsimp only [setS, List.set]
    refine wpS_nil (HQ _ fun w3 hC3 => ?_)
    simp only [closeS, List.drop_succ_cons, List.drop_zero, List.drop_nil]
    clear HQ k1
    rintro v0 -
    go_wp2
    go_ret
    exact ⟨rfl, bl_trans HB1.out hC3.below⟩
  · obtain rfl := hbad h0
    have HW := hide (show widthM l = 0 from if_neg h0)
    obtain ⟨c, hcc⟩ : ∃ c, c = chkV l := ⟨_, rfl⟩
    rw [← hcc]
    have hc0 : (((c : Nat) : Int) != 0) = true := by rw [bne_iff_ne]; omega
    clear hcc h0 hgood hbad
    go_wp2_with fail
    refine (width_any a n cap l w1 (HI.out.below HB1.out)).mono ?_
    rintro e w2 ⟨rfl, hb2⟩
    rw [HW.out]
    have HB2 := hide (bl_trans HB1.out hb2)
    clear hb2
    go_wp2_with fail
    refine (awake_any w2).mono ?_
    rintro e w3 ⟨rfl, hb⟩
    go_wp2
    go_ret
    exact ⟨rfl, bl_trans HB2.out hb⟩
end blockPacks
end Go.Proofs.Ytchcaidcohgjbaa
