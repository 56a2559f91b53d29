/- The walk of the law JournalScans. -/
import Derived.Test.YthkncfenhfieoaaJRScanW
namespace Go.Proofs.Ythkncfenhfieoaa
open Go.RowKit
set_option linter.unusedVariables false
set_option linter.unusedSimpArgs false
namespace journalScans
set_option maxHeartbeats 1000000 in
set_option maxRecDepth 100000 in
theorem walk (a : Option Addr) (len cap : Nat) (z : List Int) (R : ByteArray) (w : World) (w0 : IsRow .i64 w a len cap z) (w1 : R.size ≤ maxLen) :
    Calls Try.prog 3 #[.slice a len cap, .string R] w fun e w' => e = .returned (.bool true) ∧ Below w.heap.size w w' := by
  obtain ⟨zs, hl, hr, hc, hm, _, _⟩ := w0.ints
  have HL := hide hl.symm
  have HR := hide hr
  obtain ⟨rl, hrl⟩ : ∃ rl, rl = R.size := ⟨_, rfl⟩
  have hrl' := hrl.symm
  clear hl hr w0 w1
  by_cases h2 : 200 < rl
  · have h2' : (200 : Int) < (rl : Int) := by omega
    clear hrl
    go_enter Try.func3, Try.ntmps3
    go_wp2
    go_ret
    exact ⟨rfl, bl_refl w⟩
  have h2' : ¬ (200 : Int) < (rl : Int) := by omega
  obtain ⟨r, hR⟩ := str_ex R
  have hrr : r.length = rl := by rw [← str_size hR, hrl]
  have HRR := hide hrr
  have HRS := hide hR
  clear hrl hR hrr
  go_enter Try.func3, Try.ntmps3
  go_wp2_with fail
  refine (tnew_any a len cap zs w HL.out hc hm HR.out).mono ?_
  rintro e w1 ⟨rfl, ht1, hb1⟩
  go_wp2_with fail
  refine (lrec_any w.heap.size 4 4 w1 rfl (by decide) ht1).mono ?_
  rintro e w2 ⟨v, l, rfl, hown, hsm, hll, hg⟩
  have hb2 : Below w.heap.size w w2 := bl_grown hb1 hg (fun k h => by cases h; exact Nat.le_refl _)
  obtain ⟨a2, c2, rfl, hc2, hrec⟩ := own_recs hown rfl
  have HREC := hide hrec
  have HSM := hide hsm
  obtain ⟨T, hT⟩ : ∃ T, T = bstr (encL l) := ⟨_, rfl⟩
  have HT := hide hT
  have hle := small_len hsm
  have HLE := hide (show (encL l).length ≤ 64 by omega)
  clear ht1 hown hg hrec hsm hT hb1 hle
  go_wp2_with fail
  refine (rea_any a2 l.length c2 l w2 HREC.out (small_p HSM.out) (by omega)).mono ?_
  rintro e w3 ⟨rfl, hb3⟩
  rw [all_small HSM.out, ← HT.out]
  have hb03 := bl_trans hb2 hb3
  clear hb2 hb3
  obtain ⟨s, hs⟩ : ∃ s, s = encL l ++ r := ⟨_, rfl⟩
  have hsl : s.length ≤ 300 := by rw [hs, List.length_append, HRR.out]; have := HLE.out; omega
  have add1 := fun (w : World) => add_str (P := Try.prog) HT.out HRS.out (by rw [HRR.out]; have := HLE.out; omega) w
  rw [← hs] at add1
  obtain ⟨SS, hSS⟩ : ∃ SS, SS = bstr s := ⟨_, rfl⟩
  rw [← hSS] at add1
  obtain ⟨y, rest, hsc⟩ := exists_scan 300 s hsl
  have HSS := hide hSS
  have HSC := hide hsc
  have HSL := hide hsl
  have hyl : y.length ≤ 300 := by
    have h2 : ∀ l : List Rec, l.length ≤ (encL l).length := fun l => by
      induction l with
      | nil => simp
      | cons q l ih => rw [encL_cons, List.length_append, encR_length, List.length_cons]; omega
    have h3 := h2 y
    have h4 := congrArg List.length hsc.eq
    rw [List.length_append] at h4
    omega
  obtain ⟨n, hn⟩ : ∃ n, n = (encL y).length := ⟨_, rfl⟩
  obtain ⟨st, hst⟩ : ∃ st, st = stateM rest := ⟨_, rfl⟩
  have HN := hide hn
  have HST := hide hst
  clear hs hsl hSS hsc hn hst
  go_wp2_with fail
  refine (scan_any SS s y rest w3 HSS.out (by have := HSL.out; omega) HSC.out).mono ?_
  rintro e w4 ⟨v4, rfl, hown4, hb4⟩
  obtain ⟨a4, c4, rfl, hc4, hrec4⟩ := own_recs hown4 rfl
  rw [← HN.out, ← HST.out]
  have HREC4 := hide hrec4
  have hb04 := bl_trans hb03 hb4
  clear hown4 hrec4 hb4 hb03
  go_wp2_with fail
  refine (rscan_any SS s y rest w4 HSS.out (by have := HSL.out; omega) HSC.out).mono ?_
  rintro e w5 ⟨v5, rfl, hown5, hb5⟩
  obtain ⟨a5, c5, rfl, hc5, hrec5⟩ := own_recs hown5 rfl
  rw [← HN.out, ← HST.out]
  have HREC5 := hide hrec5
  have HREC45 := hide (HREC4.out.below hb5)
  have hb05 := bl_trans hb04 hb5
  clear hown5 hrec5 hb5 hb04
  go_wp2_with fail
  refine (same_any a4 a5 y.length c4 c5 y w5 HREC45.out HREC5.out (by omega) hc4 hc5).mono ?_
  rintro e w6 ⟨rfl, hb6⟩
  go_wp2_with fail
  refine (known_any _).mono ?_
  rintro e w7 ⟨rfl, hb7⟩
  go_wp2
  go_ret
  exact ⟨rfl, bl_trans hb05 (bl_trans hb6 hb7)⟩
end journalScans
end Go.Proofs.Ythkncfenhfieoaa
