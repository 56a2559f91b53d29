/- The walks of Seek and Rank. -/
import Derived.OwnWalk
import Derived.Test.YtbicpnhgokngeaaQSeW
namespace Go.Proofs.Ytbicpnhgokngeaa
open Go.RowKit
set_option linter.unusedVariables false
set_option linter.unusedSimpArgs false
/-- What Seek answers. -/
def seekV (l : List Nat) (p : Int) : Value := if rankQ l p < l.length then .tuple #[.int .i64 ((l.getD (rankQ l p) 0 : Nat) : Int), .int .i64 ((rankQ l p : Nat) : Int), .bool true] else .tuple #[.int .i64 0, .int .i64 ((l.length : Nat) : Int), .bool false]
theorem seekV_at {l : List Nat} {p : Int} {r x : Nat} (h : rankQ l p = r) (hx : l[r]? = some x) : seekV l p = .tuple #[.int .i64 (x : Int), .int .i64 (r : Int), .bool true] := by
  unfold seekV
  rw [h, if_pos (List.getElem?_eq_some_iff.1 hx).1, getD_at hx]
theorem seekV_no {l : List Nat} {p : Int} (h : rankQ l p = l.length) : seekV l p = .tuple #[.int .i64 0, .int .i64 ((l.length : Nat) : Int), .bool false] := by
  unfold seekV
  rw [h, if_neg (by omega)]
set_option maxHeartbeats 2000000 in
set_option maxRecDepth 100000 in
theorem seek_any (g : Nat) (l : List Nat) (p : Int) (w : World) (h : LstS w g l) (hok : okQ l) (hl : szQ l) :
    Calls Try.prog 7 #[.pointer (some ⟨g, 0, none⟩), .int .i64 p] w fun e w' => e = .returned (seekV l p) ∧ Below w.heap.size w w' := by
  have HL := hide h
  have HOK := hide hok
  obtain ⟨n, hn⟩ : ∃ n, n = l.length := ⟨_, rfl⟩
  have hgw : g < w.heap.size := by
    obtain ⟨A, m, c, B, ks, d, hg, -⟩ := h
    exact (Array.getElem?_eq_some_iff.1 hg).1
  have hn3 : n ≤ 5000 := by rw [hn]; exact hl.1
  have HSZ := hide hl
  have HN := hide hn
  obtain ⟨ks, hks⟩ : ∃ ks, ks = (n + 15) / 16 := ⟨_, rfl⟩
  have HCEL := hide (fun (wx : World) (hb : Below w.heap.size w wx) => show ∃ B d, wx.cell? ⟨g, 0, none⟩ = some (.int .i64 (n : Int)) ∧ wx.cell? ⟨g, 3, none⟩ = some (.slice B ks d) ∧ ks ≤ d ∧ ∀ i, i < ks → ∃ b o, B = some ⟨b, o, none⟩ ∧ b < wx.heap.size ∧ wx.cell? ⟨b, o + i * 2, none⟩ = some (.int .i64 ((l.getD (16 * i) 0 : Nat) : Int)) by
    obtain ⟨A, m, c, B, ks', d, hg, hm, hmc, hr, hk', hkd, hsk⟩ := HL.out.below hb
    rw [skQ_length, ← hn, ← hks] at hk'
    refine ⟨B, d, by rw [hn]; exact cell_of_row wx g 0 _ _ _ hg, by rw [← hk']; exact cell_of_row wx g 3 _ _ _ hg, by omega, fun i hi => ?_⟩
    have hat := skQ_at l l.length i (by omega)
    obtain ⟨b, o, hB, hbl, e0⟩ := hsk.at_ (sk_get _ i 0 _ _ hat rfl)
    exact ⟨b, o, hB, hbl, e0⟩)
  have hsp := cntK_spec hok p
  rw [← hn, ← hks] at hsp
  obtain ⟨K, hK⟩ : ∃ K, K = cntK l p := ⟨_, rfl⟩
  rw [← hK] at hsp
  have HSP := hide hsp
  have HK := hide hK
  have hks20 : ks ≤ 320 := by omega
  have hKks : K ≤ ks := hsp.2.2
  have HKS := hide hks
  -- the positions before an entry are less
  have HLT := hide (fun (i x : Nat) (hi : l[i]? = some x) (h0 : 0 < K) (h1 : i < 16 * (K - 1)) => show (x : Int) < p by
    have h2 := hsp.1 (K - 1) (by omega)
    obtain ⟨y, hy⟩ : ∃ y, l[16 * (K - 1)]? = some y := ⟨_, List.getElem?_eq_getElem (by omega)⟩
    rw [getD_at hy] at h2
    have := okQ_lt hok hi hy h1
    omega)
  clear h hok hl hn hks hsp hK
  go_enter Try.func7, Try.ntmps7
  obtain ⟨B0, d0, c00, c03, hd0, hc0⟩ := HCEL.out w (bl_refl w)
  clear hc0
  go_wp2_with fail
  obtain ⟨W, hW⟩ : ∃ W, W = (w.alloc (.cells #[.pointer (some ⟨g, 0, none⟩)] 26)).alloc (.cells #[.int .i64 p] 3) := ⟨_, rfl⟩
  have HBW := hide (show Below w.heap.size w W by rw [hW]; exact bl_alloc (bl_alloc (bl_refl w) _) _)
  have ca : W.cell? ⟨w.heap.size, 0, none⟩ = some (.pointer (some ⟨g, 0, none⟩)) := by rw [hW]; exact cell_alloc_sl _ (cell_new_sl w _ _)
  have cp : W.cell? ⟨w.heap.size + 1, 0, none⟩ = some (.int .i64 p) := by rw [hW]; have := cell_new_sl (w.alloc (.cells #[.pointer (some ⟨g, 0, none⟩)] 26)) (.int .i64 p) 3; rwa [World.size_alloc] at this
  have hlt1 : w.heap.size + 1 < W.heap.size := by rw [hW]; simp
  have hlt0 : w.heap.size < W.heap.size := by omega
  have HLT1 := hide hlt1
  have HCA := hide ca
  have HCP := hide cp
  rw [← hW]
  clear hW c00 c03 hd0
  obtain ⟨B1, d1, c10, c13, hd1, hc1⟩ := HCEL.out W HBW.out
  have HS := hide (ssearch_any w.heap.size (w.heap.size + 1) g p l W (HL.out.below HBW.out) HOK.out (by have := HN.out; omega) ca cp)
  rw [← HN.out, ← HKS.out, ← HK.out] at HS
  clear hc1 hlt1 hlt0
  refine HS.out.mono ?_
  rintro e W1 ⟨rfl, hb1⟩
  have HB1 := hide (HBW.out.trans (hb1.mono (by have := HLT1.out; omega)))
  have ca1 : W1.cell? ⟨w.heap.size, 0, none⟩ = some (.pointer (some ⟨g, 0, none⟩)) := (hb1.cell (show w.heap.size < W.heap.size by have := HLT1.out; omega)).trans HCA.out
  have cp1 : W1.cell? ⟨w.heap.size + 1, 0, none⟩ = some (.int .i64 p) := (hb1.cell HLT1.out).trans HCP.out
  have HLT0 := hide (show w.heap.size < W1.heap.size ∧ w.heap.size + 1 < W1.heap.size by have := HLT1.out; have := hb1.size; omega)
  clear hb1 c10 c13 ca cp hd1
  obtain rfl | ⟨k, rfl⟩ : K = 0 ∨ ∃ k, K = k + 1 := by cases K with | zero => exact .inl rfl | succ k => exact .inr ⟨k, rfl⟩
  · have HLS := hide (show ∀ (j x : Nat), j < 16 * 0 → l[j]? = some x → (x : Int) < p from fun j x h => absurd h (by omega))
    obtain ⟨B2, d2, k0, k3, hd2, hc2⟩ := HCEL.out W1 HB1.out
    by_cases hlt : 0 < ks
    · obtain ⟨b, o, rfl, hbl, hcy⟩ := hc2 (0) hlt
      (try simp only [Nat.zero_mul, Nat.add_zero] at hcy)
      obtain ⟨y, hy⟩ : ∃ y, l[16 * (0)]? = some y := ⟨_, List.getElem?_eq_getElem (by rw [← HN.out]; have := HKS.out; omega)⟩
      rw [getD_at hy] at hcy
      have hpy : p ≤ (y : Int) := by have := HSP.out.2.1 (0) (Nat.le_refl _) (by have := HKS.out; omega); rwa [getD_at hy] at this
      have HV := hide (seekV_at (rankQ_eq HLS.out (.inr ⟨y, hy, hpy⟩)) hy)
      have hlti : ((0 : Nat) : Int) < (ks : Int) := by omega
      (try simp only [Int.natCast_zero, Int.Nat.cast_ofNat_Int] at hlti)
      clear hy hpy hc2
      go_wp2
      go_ret3
      exact ⟨by rw [HV.out]; first | rfl | (congr 3; simp; omega), HB1.out⟩
    · have HV := hide (seekV_no (p := p) (rankQ_eq (i := l.length) (fun j x hj hx => HLS.out j x (by rw [← HN.out] at hj; have := HKS.out; omega) hx) (.inl rfl)))
      have hlti : ¬ ((0 : Nat) : Int) < (ks : Int) := by omega
      clear hc2
      go_wp2
      go_region
      all_goals go_wp2
      all_goals go_ret3
      all_goals exact ⟨by rw [HV.out, ← HN.out]; try rfl, bl_drewN HB1.out _⟩
  · rw [Nat.add_sub_cancel] at HLT
    obtain ⟨mm, hmm⟩ : ∃ mm, mm = min l.length (16 * (k + 1)) - 16 * k := ⟨_, rfl⟩
    have HP := hide (part_any g k l (k : Int) W1 (HL.out.below HB1.out) HOK.out HSZ.out rfl (by have := HN.out; have := HKS.out; omega))
    rw [← hmm] at HP
    have HMM := hide hmm
    have hmm16 : mm ≤ 16 := by omega
    clear hmm
    go_wp2_with fail
    refine HP.out.mono ?_
    rintro e W2 ⟨v, rfl, ho, hb2⟩
    have HB2 := hide (HB1.out.trans (hb2.mono HB1.out.size))
    have ca2 : W2.cell? ⟨w.heap.size, 0, none⟩ = some (.pointer (some ⟨g, 0, none⟩)) := (hb2.cell HLT0.out.1).trans ca1
    have cp2 : W2.cell? ⟨w.heap.size + 1, 0, none⟩ = some (.int .i64 p) := (hb2.cell HLT0.out.2).trans cp1
    have HLT2 := hide (show w.heap.size < W2.heap.size ∧ w.heap.size + 1 < W2.heap.size by have := HLT0.out; have := hb2.size; omega)
    have hmm1 : 1 ≤ mm := by have := HMM.out; have := HN.out; have := HKS.out; omega
    obtain ⟨go_, co, rfl, -⟩ := own_some ho (by omega)
    have HO := hide ho
    have HCA2 := hide ca2
    have HCP2 := hide cp2
    have HS0 := hide (show ∀ (j x : Nat), j < 16 * k + 0 → l[j]? = some x → (x : Int) < p from fun j x h hx => HLT.out j x hx (by omega) (by omega))
    clear hb2 ho ca1 cp1 ca2 cp2
    go_wp2_with fail
    go_loopw [24] (fun jv wr => ∃ j : Nat, jv = .int .i64 (j : Int) ∧ j ≤ mm ∧ Hid (∀ (i x : Nat), i < 16 * k + j → l[i]? = some x → (x : Int) < p) ∧ Below W2.heap.size W2 wr) (fun jv _ => mm - (intOf jv).toNat)
    case atStart => exact ⟨0, rfl, by omega, HS0, bl_refl W2⟩
    case round =>
      obtain ⟨j, rfl, hj, HJ, hb⟩ := hrel
      have car : wr.cell? ⟨w.heap.size, 0, none⟩ = some (.pointer (some ⟨g, 0, none⟩)) := (hb.cell HLT2.out.1).trans HCA2.out
      have cpr : wr.cell? ⟨w.heap.size + 1, 0, none⟩ = some (.int .i64 p) := (hb.cell HLT2.out.2).trans HCP2.out
      have HBR := hide (HB2.out.trans (hb.mono HB2.out.size))
      by_cases hjm : j < mm
      · obtain ⟨⟨vq, hvq, mq⟩, mf⟩ := own_at (own_below HO.out hb) hjm
        obtain ⟨x, hx⟩ : ∃ x, l[16 * k + j]? = some x := ⟨_, List.getElem?_eq_getElem (by have := HMM.out; omega)⟩
        have hat := chunkQ_at (k := k) (j := min l.length (16 * (k + 1))) hx (by omega) (by have := HMM.out; omega)
        rw [show 16 * k + j - 16 * k = j by omega] at hat
        have hvq2 : vq = .int .i64 (x : Int) := by
          rw [List.getElem?_map, hat] at hvq
          exact (Option.some.inj hvq).symm
        rw [hvq2] at mq
        have hk2 : k ≤ 320 := by omega
        have hji : (j : Int) < (mm : Int) := by omega
        have hxb : (x : Int) ≤ 2147483647 := by have := HOK.out.2 x (List.mem_of_getElem? hx); omega
        by_cases hpx : p ≤ (x : Int)
        · have HV := hide (seekV_at (rankQ_eq HJ.out (.inr ⟨x, hx, hpx⟩)) hx)
          clear hx hat hvq hvq2 hb
          go_wp2
          go_ret3
          exact ⟨by rw [HV.out]; congr 3; simp; omega, HBR.out⟩
        · have HJ2 := hide (show ∀ (i y : Nat), i < 16 * k + (j + 1) → l[i]? = some y → (y : Int) < p from fun i y hi hy => by
            by_cases hij : i = 16 * k + j
            · rw [hij, hx] at hy
              injection hy with hy
              omega
            · exact HJ.out i y (by omega) hy)
          have HBW := hide hb
          clear hx hat hvq hvq2 hb
          go_wp2
          go_roundw
          case rel => exact ⟨j + 1, by go_num, by omega, HJ2, HBW.out⟩
          case measure => simp [intOf]; omega
      · have HLS := hide (show ∀ (i x : Nat), i < 16 * (k + 1) → l[i]? = some x → (x : Int) < p from fun i x hi hx => HJ.out i x (by have := (List.getElem?_eq_some_iff.1 hx).1; have := HMM.out; omega) hx)
        have hji : ¬ (j : Int) < (mm : Int) := by omega
        clear hb
        obtain ⟨B2, d2, k0, k3, hd2, hc2⟩ := HCEL.out wr HBR.out
        by_cases hlt : k + 1 < ks
        · obtain ⟨b, o, rfl, hbl, hcy⟩ := hc2 (k + 1) hlt
          (try simp only [Nat.zero_mul, Nat.add_zero] at hcy)
          obtain ⟨y, hy⟩ : ∃ y, l[16 * (k + 1)]? = some y := ⟨_, List.getElem?_eq_getElem (by rw [← HN.out]; have := HKS.out; omega)⟩
          rw [getD_at hy] at hcy
          have hpy : p ≤ (y : Int) := by have := HSP.out.2.1 (k + 1) (Nat.le_refl _) (by have := HKS.out; omega); rwa [getD_at hy] at this
          have HV := hide (seekV_at (rankQ_eq HLS.out (.inr ⟨y, hy, hpy⟩)) hy)
          have hlti : ((k + 1 : Nat) : Int) < (ks : Int) := by omega
          (try simp only [Int.natCast_zero, Int.Nat.cast_ofNat_Int] at hlti)
          clear hy hpy hc2
          go_wp2
          go_ret3
          exact ⟨by rw [HV.out]; first | rfl | (congr 3; simp; omega), HBR.out⟩
        · have HV := hide (seekV_no (p := p) (rankQ_eq (i := l.length) (fun j x hj hx => HLS.out j x (by rw [← HN.out] at hj; have := HKS.out; omega) hx) (.inl rfl)))
          have hlti : ¬ ((k + 1 : Nat) : Int) < (ks : Int) := by omega
          clear hc2
          go_wp2
          go_region
          all_goals go_wp2
          all_goals go_ret3
          all_goals exact ⟨by rw [HV.out, ← HN.out]; try rfl, bl_drewN HBR.out _⟩
theorem seekV_rank (l : List Nat) (p : Int) : ∃ a c, seekV l p = .tuple #[a, .int .i64 ((rankQ l p : Nat) : Int), c] := by
  unfold seekV
  by_cases h : rankQ l p < l.length
  · rw [if_pos h]; exact ⟨_, _, rfl⟩
  · rw [if_neg h, show rankQ l p = l.length by have := rankQ_le l p; omega]; exact ⟨_, _, rfl⟩
end Go.Proofs.Ytbicpnhgokngeaa
