/- The walks of the laws PostingsBuilds, PostingsSeeks, PostingsReads, PostingsWalks. -/
import Derived.Test.YtnflffhmnbjelaaQLbW
namespace Go.Proofs.Ytnflffhmnbjelaa
open Go.RowKit
set_option linter.unusedVariables false
set_option linter.unusedSimpArgs false
/-- A slice of ints that came in: a list of numbers, read. -/
theorem IsRow.ints {w : World} {a : Option Addr} {len cap : Nat} {zs : List Int} (h : IsRow .i64 w a len cap zs) :
    ∃ l : List Int, IsI w a len l ∧ len ≤ cap ∧ cap ≤ maxLen ∧ ∀ x ∈ l, (Lit.int .i64 x).wf = true := by
  rcases h with ⟨rfl, rfl, rfl, rfl⟩ | ⟨x, rfl, hl, hm, hz, hc, hw⟩
  · exact ⟨[], ⟨rfl, .inl rfl⟩, Nat.le_refl _, Nat.zero_le _, fun _ h => by simp at h⟩
  · refine ⟨zs.take len, ⟨by simp; omega, ?_⟩, hl, hm, fun y hy => hw y (List.mem_of_mem_take hy)⟩
    rcases Nat.eq_zero_or_pos len with h0 | h0
    · subst h0; exact .inl (by simp)
    · have hx0 := hc 0 (by omega)
      have hsp : x.spot = none := by simpa [Addr.add] using World.cell?_spot hx0
      obtain ⟨b, o, sp⟩ := x
      subst hsp
      refine .inr ⟨b, o, rfl, lt_heap (a := (⟨b, o, none⟩ : Addr).add 0) hx0, fun k v hv => ?_⟩
      rw [List.getElem?_map, Option.map_eq_some_iff] at hv
      obtain ⟨n, hn, rfl⟩ := hv
      have hk : k < zs.length := by
        have := (List.getElem?_eq_some_iff.1 hn).1
        simp at this; omega
      have h1 := hc k hk
      rw [Addr.add_lit] at h1
      rw [h1]
      have hnz : zs.getD k 0 = n := by
        rw [List.getElem?_take] at hn
        split at hn
        · simp [List.getD, hn]
        · cases hn
      rw [hnz]
      rfl
set_option maxRecDepth 100000 in
theorem len_any (g : Nat) (l : List Nat) (w : World) (h : LstS w g l) :
    Calls Try.prog 16 #[.pointer (some ⟨g, 0, none⟩)] w fun e w' => e = .returned (.int .i64 ((l.length : Nat) : Int)) ∧ w = w' := by
  obtain ⟨A, m, c, B, ks, d, hg, -⟩ := h
  have c0 : w.cell? ⟨g, 0, none⟩ = some (.int .i64 ((l.length : Nat) : Int)) := cell_of_row w g 0 _ _ _ hg
  generalize l.length = n at *
  clear hg
  go_enter Try.func16, Try.ntmps16
  go_wp2
  go_ret
  exact ⟨rfl, rfl⟩
namespace postingsBuilds
set_option maxHeartbeats 1000000 in
set_option maxRecDepth 100000 in
theorem walk (a : Option Addr) (n cap : Nat) (zz : List Int) (w : World) (w0 : IsRow .i64 w a n cap zz) :
    Calls Try.prog 7 #[.slice a n cap] w fun e w' => e = .returned (.bool true) ∧ Below w.heap.size w w' := by
  obtain ⟨z, hi, hc, hm, hz⟩ := w0.ints
  have HI := hide hi
  have HZ := hide hz
  clear hi w0 hz
  by_cases h3 : 300 < n
  · have h3' : (300 : Int) < (n : Int) := by omega
    go_enter Try.func7, Try.ntmps7
    go_wp2
    go_ret
    exact ⟨rfl, bl_refl w⟩
  have h3' : ¬ (300 : Int) < (n : Int) := by omega
  go_enter Try.func7, Try.ntmps7
  go_wp2_with fail
  refine (built_any a n cap z w HI.out HZ.out hc hm).mono ?_
  rintro e w1 ⟨h1, h2, hb1⟩
  have HB1 := hide hb1
  by_cases h0 : chkL z = 0
  · obtain ⟨g, rfl, hg, hs⟩ := h2 h0
    have HS := hide hs
    have HOK := hide (okQ_of h0)
    have HSZ := hide (szQ_of HOK.out (by rw [natsOf_length, ← HI.out.1]; omega))
    have HIV := hide (natsOf_iv h0)
    have HI1 := hide (HI.out.below hb1)
    clear h1 h2 hb1 hs hg h0
    go_wp2_with fail
    refine (len_any g _ w1 HS.out).mono ?_
    rintro e w2 ⟨rfl, rfl⟩
    rw [natsOf_length, ← HI.out.1]
    go_wp2_with fail
    refine (all_any g _ w1 HS.out HOK.out HSZ.out).mono ?_
    rintro e w2 ⟨v, rfl, ho, hb2⟩
    rw [HIV.out, natsOf_length, ← HI.out.1] at ho
    obtain ⟨-, A, c, rfl, hac, hr, -⟩ := own_form ho
    have HI2 := hide (HI1.out.below hb2)
    have HA := hide (show IsI w2 A n z from ⟨HI.out.1, hr⟩)
    have HB2 := hide (HB1.out.trans (hb2.mono HB1.out.size))
    clear ho hb2 hr
    go_wp2_with fail
    refine (same_ints A a n c n cap z z w2 HA.out HI2.out hac hc (by omega) (by omega)).mono ?_
    rintro e w3 ⟨rfl, hb3⟩
    rw [decide_eq_true rfl]
    have HB3 := hide (HB2.out.trans (hb3.mono HB2.out.size))
    clear hb3
    go_wp2_with fail
    refine (awake_any w3).mono ?_
    rintro e w4 ⟨rfl, hb4⟩
    have HB4 := hide (HB3.out.trans (hb4.mono HB3.out.size))
    clear hb4
    go_wp2
    go_ret
    exact ⟨rfl, HB4.out⟩
  · obtain rfl := h1 h0
    clear h1 h2 hb1 h0
    go_wp2_with fail
    refine (awake_any w1).mono ?_
    rintro e w4 ⟨rfl, hb4⟩
    have HB4 := hide (HB1.out.trans (hb4.mono HB1.out.size))
    clear hb4
    go_wp2
    go_ret
    exact ⟨rfl, HB4.out⟩
end postingsBuilds
namespace postingsSeeks
set_option maxHeartbeats 1000000 in
set_option maxRecDepth 100000 in
theorem walk (a : Option Addr) (n cap : Nat) (zz : List Int) (p : Int) (w : World) (w0 : IsRow .i64 w a n cap zz) (hp : (Lit.int .i64 p).wf = true) :
    Calls Try.prog 3 #[.slice a n cap, .int .i64 p] w fun e w' => e = .returned (.bool true) ∧ Below w.heap.size w w' := by
  obtain ⟨z, hi, hc, hm, hz⟩ := w0.ints
  have HI := hide hi
  have HZ := hide hz
  clear hi w0 hz
  by_cases h3 : 300 < n
  · have h3' : (300 : Int) < (n : Int) := by omega
    go_enter Try.func3, Try.ntmps3
    go_wp2
    go_ret
    exact ⟨rfl, bl_refl w⟩
  have h3' : ¬ (300 : Int) < (n : Int) := by omega
  go_enter Try.func3, Try.ntmps3
  go_wp2_with fail
  refine (built_any a n cap z w HI.out HZ.out hc hm).mono ?_
  rintro e w1 ⟨h1, h2, hb1⟩
  have HB1 := hide hb1
  by_cases h0 : chkL z = 0
  · obtain ⟨g, rfl, hg, hs⟩ := h2 h0
    have HS := hide hs
    have HOK := hide (okQ_of h0)
    have HSZ := hide (szQ_of HOK.out (by rw [natsOf_length, ← HI.out.1]; omega))
    have HI1 := hide (HI.out.below hb1)
    obtain ⟨x, k, c, hx⟩ : ∃ x k c, seekZ z p = .tuple #[.int .i64 x, .int .i64 k, .bool c] := by
      unfold seekZ
      by_cases h : (z.findIdx fun x => decide (p ≤ x)) < z.length
      · rw [if_pos h]; exact ⟨_, _, _, rfl⟩
      · rw [if_neg h]; exact ⟨_, _, _, rfl⟩
    have hk : k = ((rankQ (natsOf z) p : Nat) : Int) := by
      obtain ⟨a', c', h5⟩ := seekV_rank (natsOf z) p
      rw [seekV_Z h0, hx] at h5
      simp at h5
      exact h5.2.1
    have HX := hide hx
    have HK := hide hk
    have HV := hide (seekV_Z h0 p)
    clear h1 h2 hb1 hs hg h0 hx hk
    go_wp2_with fail
    refine (seek_any g _ p w1 HS.out HOK.out HSZ.out).mono ?_
    rintro e w2 ⟨rfl, hb2⟩
    rw [HV.out, HX.out]
    have HI2 := hide (HI1.out.below hb2)
    have HS2 := hide (HS.out.below hb2)
    have HB2 := hide (HB1.out.trans (hb2.mono HB1.out.size))
    clear hb2
    go_wp2_with fail
    refine (rseek_any a n cap z p w2 HI2.out (by omega)).mono ?_
    rintro e w3 ⟨rfl, hb3⟩
    rw [HX.out]
    have HS3 := hide (HS2.out.below hb3)
    have HB3 := hide (HB2.out.trans (hb3.mono HB2.out.size))
    clear hb3
    go_wp2_with fail
    refine (rank_any g _ p w3 HS3.out HOK.out HSZ.out).mono ?_
    rintro e w4 ⟨rfl, hb4⟩
    rw [← HK.out]
    have HB4 := hide (HB3.out.trans (hb4.mono HB3.out.size))
    clear hb4
    go_wp2_with fail
    refine (awake_any w4).mono ?_
    rintro e w5 ⟨rfl, hb5⟩
    have HB5 := hide (HB4.out.trans (hb5.mono HB4.out.size))
    clear hb5
    go_wp2
    go_ret
    exact ⟨rfl, HB5.out⟩
  · obtain rfl := h1 h0
    clear h1 h2 hb1 h0
    go_wp2_with fail
    refine (awake_any w1).mono ?_
    rintro e w4 ⟨rfl, hb4⟩
    have HB4 := hide (HB1.out.trans (hb4.mono HB1.out.size))
    clear hb4
    go_wp2
    go_ret
    exact ⟨rfl, HB4.out⟩
end postingsSeeks
namespace postingsReads
set_option maxHeartbeats 4000000 in
set_option maxRecDepth 100000 in
theorem walk (a : Option Addr) (n cap : Nat) (zz : List Int) (p : Int) (w : World) (w0 : IsRow .i64 w a n cap zz) (hp : (Lit.int .i64 p).wf = true) :
    Calls Try.prog 5 #[.slice a n cap, .int .i64 p] w fun e w' => e = .returned (.bool true) ∧ Below w.heap.size w w' := by
  obtain ⟨z, hi, hc, hm, hz⟩ := w0.ints
  have HI := hide hi
  have HZ := hide hz
  clear hi w0 hz
  by_cases h3 : 200 < n
  · have h3' : (200 : Int) < (n : Int) := by omega
    go_enter Try.func5, Try.ntmps5
    go_wp2
    go_ret
    exact ⟨rfl, bl_refl w⟩
  have h3' : ¬ (200 : Int) < (n : Int) := by omega
  go_enter Try.func5, Try.ntmps5
  go_wp2_with fail
  refine (built_any a n cap z w HI.out HZ.out hc hm).mono ?_
  rintro e w1 ⟨h1, h2, hb1⟩
  have HB1 := hide hb1
  by_cases h0 : chkL z = 0
  · obtain ⟨g, rfl, hg, hs⟩ := h2 h0
    have HS := hide hs
    have HOK := hide (okQ_of h0)
    have HSZ := hide (szQ_of HOK.out (by rw [natsOf_length, ← HI.out.1]; omega))
    have HAT := hide (fun (i : Nat) (x : Int) (hx : z[i]? = some x) => natsOf_at h0 hx)
    have hln : (natsOf z).length = n := by rw [natsOf_length, ← HI.out.1]
    have HLN := hide hln
    clear h1 h2 hb1 hs hg h0 hln
    go_wp2_with fail
    go_loopw [7] (fun kv wr => ∃ i : Int, kv = .int .i64 i ∧ -1 ≤ i ∧ i ≤ (n : Int) + 1 ∧ Hid (Below w.heap.size w wr) ∧ Hid (LstS wr g (natsOf z))) (fun kv _ => n + 2 - (intOf kv + 1).toNat)
    case atStart => exact ⟨-1, rfl, by omega, by omega, HB1, HS⟩
    case round =>
      obtain ⟨i, rfl, hi1, hi2, HB, HSr⟩ := hrel
      by_cases hin : i ≤ (n : Int)
      · by_cases hib : 0 ≤ i ∧ i < (n : Int)
        · obtain ⟨k, rfl⟩ := Int.eq_ofNat_of_zero_le hib.1
          obtain ⟨hib1, hib2⟩ := hib
          obtain ⟨b, o, x, rfl, hbl, hx, -⟩ := HI.out.at_ (k := k) (by omega)
          obtain ⟨y, rfl, hy⟩ := HAT.out k x hx
          have HX := hide hx
          have HY := hide hy
          clear hx hy
          go_wp2_with fail
          refine (at_any g _ (k : Int) wr HSr.out HOK.out HSZ.out).mono ?_
          rintro e w2 ⟨hres, hb2⟩
          obtain rfl := hres.2 k y rfl HY.out
          have HB2 := hide (HB.out.trans (hb2.mono HB.out.size))
          have HS2 := hide (HSr.out.below hb2)
          have e0 : w2.cell? ⟨b, o + k, none⟩ = some (.int .i64 (y : Int)) := by
            obtain ⟨b', o', x', he, _, hx', e⟩ := (HI.out.below HB2.out).at_ (k := k) (by omega)
            injection he with he
            injection he with q1 q2
            subst q1 q2
            rw [HX.out] at hx'
            injection hx' with hx'
            rw [hx']; exact e
          clear hres hb2
          go_wp2
          go_roundw
          case rel => exact ⟨(k : Int) + 1, by go_num, by omega, by omega, HB2, HS2⟩
          case measure => simp [intOf]; omega
        · have hout : i < 0 ∨ ((natsOf z).length : Int) ≤ i := by rw [HLN.out]; omega
          have HOUT := hide hout
          rcases (show i = -1 ∨ i = (n : Int) by omega) with rfl | rfl
          · clear hout hib
            go_wp2_with fail
            refine (at_any g _ (-1) wr HSr.out HOK.out HSZ.out).mono ?_
            rintro e w2 ⟨hres, hb2⟩
            obtain rfl := hres.1 HOUT.out
            have HB2 := hide (HB.out.trans (hb2.mono HB.out.size))
            have HS2 := hide (HSr.out.below hb2)
            clear hres hb2
            go_wp2
            go_roundw
            case rel => exact ⟨0, by go_num, by omega, by omega, HB2, HS2⟩
            case measure => simp [intOf]
          · clear hout hib
            go_wp2_with fail
            refine (at_any g _ (n : Int) wr HSr.out HOK.out HSZ.out).mono ?_
            rintro e w2 ⟨hres, hb2⟩
            obtain rfl := hres.1 HOUT.out
            have HB2 := hide (HB.out.trans (hb2.mono HB.out.size))
            have HS2 := hide (HSr.out.below hb2)
            clear hres hb2
            go_wp2
            go_roundw
            case rel => exact ⟨(n : Int) + 1, by go_num, by omega, by omega, HB2, HS2⟩
            case measure => simp [intOf]; omega
      · obtain rfl : i = (n : Int) + 1 := by omega
        go_wp2_with fail
        refine (at_any g _ p wr HSr.out HOK.out HSZ.out).mono ?_
        rintro e w2 ⟨hres, hb2⟩
        have HB2 := hide (HB.out.trans (hb2.mono HB.out.size))
        have HS2 := hide (HSr.out.below hb2)
        by_cases hib : 0 ≤ p ∧ p < (n : Int)
        · obtain ⟨k, rfl⟩ := Int.eq_ofNat_of_zero_le hib.1
          obtain ⟨hib1, hib2⟩ := hib
          obtain ⟨b, o, x, rfl, hbl, hx, e0⟩ := (HI.out.below HB2.out).at_ (k := k) (by omega)
          obtain ⟨y, rfl, hy⟩ := HAT.out k x hx
          obtain rfl := hres.2 k y rfl hy
          clear hres hb2 hx hy hp
          go_wp2_with fail
          refine (awake_any w2).mono ?_
          rintro e w5 ⟨rfl, hb5⟩
          have HB5 := hide (HB2.out.trans (hb5.mono HB2.out.size))
          clear hb5
          go_wp2
          go_ret
          exact ⟨rfl, HB5.out⟩
        · obtain rfl := hres.1 (by rw [HLN.out]; omega)
          clear hres hb2
          by_cases h0 : 0 ≤ p
          · have h1 : ¬ p < (n : Int) := by omega
            have hd : decide (p < (n : Int)) = false := decide_eq_false h1
            go_wp2_with fail
            refine (awake_any w2).mono ?_
            rintro e w5 ⟨rfl, hb5⟩
            have HB5 := hide (HB2.out.trans (hb5.mono HB2.out.size))
            clear hb5
            go_wp2
            go_ret
            exact ⟨rfl, HB5.out⟩
          · go_wp2_with fail
            refine (awake_any w2).mono ?_
            rintro e w5 ⟨rfl, hb5⟩
            have HB5 := hide (HB2.out.trans (hb5.mono HB2.out.size))
            clear hb5
            go_wp2
            go_ret
            exact ⟨rfl, HB5.out⟩
  · obtain rfl := h1 h0
    clear h1 h2 hb1 h0
    go_wp2_with fail
    refine (awake_any w1).mono ?_
    rintro e w4 ⟨rfl, hb4⟩
    have HB4 := hide (HB1.out.trans (hb4.mono HB1.out.size))
    clear hb4
    go_wp2
    go_ret
    exact ⟨rfl, HB4.out⟩
end postingsReads
end Go.Proofs.Ytnflffhmnbjelaa
