/- The walk of the law BitioReads. -/
import Derived.Test.YtimcbgcjnfdcaaaNewRW
import Derived.Test.YtimcbgcjnfdcaaaAwW
namespace Go.Proofs.Ytimcbgcjnfdcaaa
open Go.RowKit
set_option linter.unusedVariables false
set_option linter.unusedSimpArgs false
namespace bitioReads
set_option maxHeartbeats 2000000 in
set_option maxRecDepth 100000 in
theorem walk (a : Option Addr) (len cap : Nat) (z0 : List Int) (n : Int) (a2 : Option Addr) (len2 cap2 : Nat) (cs : List (Int × Nat × Int)) (w : World) (w0 : IsRow .u8 w a len cap z0) (w1 : (Lit.int .i64 n).wf = true) (hcs : IsCalls w a2 len2 cs) :
    Calls Try.prog 10 #[.slice a len cap, .int .i64 n, .slice a2 len2 cap2] w fun e w' => e = .returned (.bool true) ∧ Below w.heap.size w w' := by
  obtain ⟨p, hl, hr, hc, hm, hn⟩ := w0.bytes
  have HL := hide hl.symm
  have HR := hide hr
  have HC := hide hcs
  unfold maxLen at hm
  clear hl hr hn w0 w1 hcs
  go_enter Try.func10, Try.ntmps10
  by_cases h7 : 700 < len
  · go_wp2
    go_ret
    exact ⟨rfl, bl_refl _⟩
  by_cases h12 : 12 < len2
  · go_wp2
    go_ret
    exact ⟨rfl, bl_refl _⟩
  by_cases hbad : n < 0 ∨ 8 * (len : Int) < n
  · go_wp2_with fail
    refine (newreader_bad a len cap n w (by omega) hbad).mono ?_
    rintro e w' ⟨rfl, rfl⟩
    by_cases hneg : n < 0
    · go_wp2_with fail
      refine (awake_any _).mono ?_
      rintro e w6 ⟨rfl, hb6⟩
      go_wp2_with fail
      go_ret
      exact ⟨rfl, hb6⟩
    · have h8 : 8 * (len : Int) < n := by omega
      go_wp2_with fail
      refine (awake_any _).mono ?_
      rintro e w6 ⟨rfl, hb6⟩
      go_wp2_with fail
      go_ret
      exact ⟨rfl, hb6⟩
  obtain ⟨nn, rfl⟩ := Int.eq_ofNat_of_zero_le (show 0 ≤ n by omega)
  have h8 : ¬ 8 * (len : Int) < nn := by omega
  have hn8 : nn ≤ 8 * len := by omega
  go_wp2_with fail
  refine (newreader_any a len cap p nn w HL.out hc (by omega) HR.out (by omega)).mono ?_
  rintro e w1 ⟨g, rfl, hgw, hrs, hb1⟩
  rw [Int.toNat_natCast] at hrs
  obtain ⟨L, hL⟩ : ∃ L, L = unpackL p nn := ⟨_, rfl⟩
  have hLn : L.length = nn := by rw [hL, unpackL_length]
  rw [← hL] at hrs
  have HRS := hide hrs
  have HLL := hide hL
  have hgl := hrs.lt
  clear hrs hL hbad
  go_wp2_with fail
  refine (unpack_ref a len cap p nn nn w1 rfl HL.out (by omega) hn8 (HR.out.below hb1)).mono ?_
  rintro e w2 ⟨v2, rfl, hown2, hb2⟩
  rw [← HLL.out] at hown2
  obtain ⟨hx1, A9, c9, rfl, hc9, hrd9, hx3⟩ := own_form hown2
  have hne9 : ∀ b, A9 = some b → b.block ≠ g := fun b hb => by have := hx3.2 b hb; omega
  have H9 := hide (And.intro hrd9 hne9)
  have HRS2 := hide (HRS.out.below hb2)
  have hbw2 := bl_trans hb1 hb2
  have HLN := hide hLn
  clear hx1 hx3 hown2 hrd9 hne9 hLn
  go_wp2_with fail
  go_loopw [10, 61] (fun y i wr => ∃ (k pos : Nat), i = .int .i64 (k : Int) ∧ y = .int .i64 (pos : Int) ∧ k ≤ len2 ∧ RdS wr w.heap.size g L pos ∧ Rd wr A9 (L.map Value.bool) ∧ Below w.heap.size w wr) (fun _ i _ => len2 - (intOf i).toNat)
  case atStart => exact ⟨0, 0, rfl, rfl, Nat.zero_le _, HRS2.out, H9.out.1, hbw2⟩
  case round =>
    obtain ⟨k, pos, rfl, rfl, hk, hrs, hrd, hb⟩ := hrel
    have HS := hide (And.intro hrs hrd)
    clear hrs hrd
    by_cases hlt : k < len2
    · obtain ⟨b, o, ⟨c0, c1, c2⟩, rfl, hbl, hck, hc1, e0, e1, e2⟩ := (HC.out.below hb).at_ hlt
      simp only [] at hc1 e0 e1 e2
      clear hc1 hck
      obtain ⟨W1, hW1⟩ : ∃ W, W = wr.alloc (.cells #[.int .i64 c0, .int .u64 (c1 : Int), .int .i64 c2] 44) := ⟨_, rfl⟩
      have hbl1 : Below wr.heap.size wr W1 := by rw [hW1]; exact bl_alloc (bl_refl wr) _
      have hsz1 : W1.heap.size = wr.heap.size + 1 := by rw [hW1]; simp
      have hcell : ∀ j v, (callCells (c0, c1, c2))[j]? = some v → W1.cell? ⟨wr.heap.size, j, none⟩ = some v := fun j v hv => by
        rw [hW1, cell_of_row _ _ j _ _ (0, 0) (heap_alloc_new wr _)]
        simpa [callCells] using hv
      go_wp2_with fail
      rw [← hW1]
      refine (read_ref A9 nn c9 L pos c0 c1 c2 W1 HLN.out.symm hc9 (by omega) (HS.out.2.below hbl1) (by have := HS.out.1.pos_le; rw [HLN.out] at this; exact this)).mono ?_
      rintro e w3 ⟨rfl, hb3⟩
      obtain ⟨⟨r1, r2, r3⟩, hR⟩ : ∃ R, R = readM L pos c0 c2 := ⟨_, rfl⟩
      rw [← hR]
      have HRR := hide hR
      unfold tup3
      simp only []
      have d0 : w3.cell? ⟨wr.heap.size, 0, none⟩ = some (.int .i64 c0) := by rw [hb3.cell (by show wr.heap.size < _; omega)]; exact hcell 0 _ rfl
      have d1 : w3.cell? ⟨wr.heap.size, 1, none⟩ = some (.int .u64 (c1 : Int)) := by rw [hb3.cell (by show wr.heap.size < _; omega)]; exact hcell 1 _ rfl
      have d2 : w3.cell? ⟨wr.heap.size, 2, none⟩ = some (.int .i64 c2) := by rw [hb3.cell (by show wr.heap.size < _; omega)]; exact hcell 2 _ rfl
      have hb13 := bl_trans hbl1 hb3
      have HS3 := hide (HS.out.1.below hb13)
      have HRD3 := hide (HS.out.2.below hb13)
      clear hR hcell hW1
      go_wp2_with fail
      refine (lread_any w.heap.size g L pos c0 c1 c2 w3 HS3.out).mono ?_
      rintro e w4 ⟨rfl, hgo⟩
      rw [← HRR.out] at hgo ⊢
      unfold tup2
      simp only [] at hgo ⊢
      have HS4 := hide hgo.1
      have HRD4 := hide (hgo.rd HRD3.out H9.out.2)
      have hb4 : Below w.heap.size w w4 := (hb.trans (hb13.mono hb.size)).trans (hgo.below hgw (Nat.le_trans hb.size hb13.size))
      clear hgo d0 d1 d2
      go_wp2_with fail
      refine (rpos_any w.heap.size g L r2 w4 HS4.out).mono ?_
      rintro e w' ⟨rfl, rfl⟩
      go_wp2
      go_roundw
      case rel => exact ⟨k + 1, r2, by go_num, rfl, by omega, HS4.out, HRD4.out, hb4⟩
      case measure => simp [intOf]; omega
    · go_wp2_with fail
      refine (awake_any _).mono ?_
      rintro e w6 ⟨rfl, hb6⟩
      go_wp2_with fail
      go_ret
      exact ⟨rfl, bl_trans hb hb6⟩
end bitioReads
end Go.Proofs.Ytimcbgcjnfdcaaa
