/- The walk of the program's Validate. -/
import Derived.Test.YtjpmfiicbokdcaaDxW
namespace Go.Proofs.Ytjpmfiicbokdcaa
open Go.RowKit
set_option linter.unusedVariables false
set_option linter.unusedSimpArgs false
set_option maxHeartbeats 16000000 in
set_option maxRecDepth 100000 in
theorem validate_any (v : Value) (d : Dsk) (w : World) (h : IsD w v d) (hs : szD d) :
    Calls Try.prog 17 #[v] w fun e w' => e = .returned (.int .i64 ((errM d : Nat) : Int)) ∧ Below w.heap.size w w' := by
  have HD0 := hide h
  obtain ⟨a1, n1, c1, a2, n2, c2, a3, n3, c3, a4, n4, c4, rfl, h1, h2, h3, h4, ⟨k1, m1⟩, ⟨k2, m2⟩, ⟨k3, m3⟩, ⟨k4, m4⟩⟩ := h.h
  have H1 := hide h1
  have H2 := hide h2
  have H3 := hide h3
  have H4 := hide h4
  have HN1 := hide (show n1 = d.inodes.length from h1.1)
  have hn1 : n1 ≤ 100000 := by rw [h1.1]; exact hs.1
  have hn2 : n2 ≤ 100000 := by rw [h2.1]; exact hs.2.1
  have hn3 : n3 ≤ 100000 := by rw [h3.1]; exact hs.2.2.1
  have hn4 : n4 ≤ 100000 := by rw [h4.1]; exact hs.2.2.2
  have HS := hide hs
  obtain ⟨er, her⟩ : ∃ er, er = errM d := ⟨_, rfl⟩
  have HNO := hide (fun (hv : ¬ (dirM d.inodes.length d.dir = true ∧ dirM d.inodes.length d.dur = true ∧ 0 ≤ firstM d ∧ (∀ e ∈ d.dur, e.2 < firstM d) ∧ (∀ i x, d.inodes[i]? = some x → inodeM d (firstM d) i x = true) ∧ repM d.dur (firstM d) d.ops = some d.dir)) => show er = 9 by rw [her]; unfold errM; rw [valid_no hv]; rfl)
  have HYES := hide (fun (hv : dirM d.inodes.length d.dir = true ∧ dirM d.inodes.length d.dur = true ∧ 0 ≤ firstM d ∧ (∀ e ∈ d.dur, e.2 < firstM d) ∧ (∀ i x, d.inodes[i]? = some x → inodeM d (firstM d) i x = true) ∧ repM d.dur (firstM d) d.ops = some d.dir) => show er = 0 by rw [her]; unfold errM; rw [(valid_iff d).2 hv]; rfl)
  rw [← her]
  have hcr : creM d.ops ≤ n4 := by rw [h4.1]; exact List.countP_le_length
  obtain ⟨cr, hcre⟩ : ∃ cr, cr = creM d.ops := ⟨_, rfl⟩
  have HFM := hide (show firstM d = (n1 : Int) - (cr : Int) by unfold firstM; rw [h1.1, hcre])
  have HRC := hide (fun (wx : World) (hb : Below w.heap.size w wx) => created_any a4 n4 c4 d.ops wx (h4.below hb) (by omega))
  rw [← hcre] at HRC hcr
  obtain ⟨i0, hi0, hz0, hz1, hz2⟩ := info_parts info_bool
  have hmk : ∀ (W : World), (Instr.makeSlice 68 (.int .i64 (n1 : Int)) (.int .i64 (n1 : Int))).run Try.prog W = .ok (.slice (some ⟨W.heap.size, 0, none⟩) n1 n1) (W.alloc (.cells (List.replicate n1 (.bool false)).toArray 4)) := by
    intro W
    rw [run_make_nc (P := Try.prog) 68 4 i0 _ Try.underlying68 hi0 hz0 .i64 .i64 n1 n1 (Nat.le_refl _) (by rw [hz2]; omega) (by omega) W, hz1, Nat.mul_one]
    have e : madeCells (Value.bool false).cells n1 = (List.replicate n1 (.bool false)).toArray := made_arr (.bool false) n1
    rw [e]
  clear h h1 h2 h3 h4 hs her hcre hi0 hz0 hz1 hz2
  obtain ⟨W2, hW2⟩ : ∃ W2, W2 = (w.alloc (.cells [.slice a1 n1 c1, .slice a2 n2 c2, .slice a3 n3 c3, .slice a4 n4 c4].toArray 27)).alloc (.cells (List.replicate n1 (.bool false)).toArray 4) := ⟨_, rfl⟩
  have B0 := hide (show Blk W2 w.heap.size [.slice a1 n1 c1, .slice a2 n2 c2, .slice a3 n3 c3, .slice a4 n4 c4] 27 by rw [hW2]; exact (Blk.new w _ _).alloc _)
  have B1 := hide (show Blk W2 (w.heap.size + 1) (knL [] n1) 4 by rw [hW2, knL_nil]; exact Blk.newG (by simp) _ _)
  have HB2 := hide (show Below w.heap.size w W2 by rw [hW2]; exact bl_alloc (bl_alloc (bl_refl w) _) _)
  have HW2 := hide hW2
  clear hW2
  have HDA := hide (fun (wx : World) (L0 : List Ent) (hb : Below w.heap.size w wx) (hk : Blk wx (w.heap.size + 1) (knL L0 n1) 4) => directory_any a2 n2 c2 n1 d.dir L0 (w.heap.size + 1) wx (by omega) (by omega) k2 m2 hk (fun wy hg => H2.out.below (bl_grown hb hg (fun q hq => by injection hq with hq; omega))))
  have HDB := hide (fun (wx : World) (L0 : List Ent) (hb : Below w.heap.size w wx) (hk : Blk wx (w.heap.size + 1) (knL L0 n1) 4) => directory_any a3 n3 c3 n1 d.dur L0 (w.heap.size + 1) wx (by omega) (by omega) k3 m3 hk (fun wy hg => H3.out.below (bl_grown hb hg (fun q hq => by injection hq with hq; omega))))
  clear k2 m2 k3 m3 k4 m4
  go_enter Try.func17, Try.ntmps17
  go_wp2_with fail
  have HW := HW2.out
  simp only [List.toArray_replicate] at HW
  rw [← HW]
  clear HW HW2
  refine (HDA.out W2 [] HB2.out B1.out).mono ?_
  rintro e w1 ⟨rfl, hg1, hk1⟩
  have C0 := hide (B0.out.grown hg1 (by intro e; injection e with e; omega))
  have HB1 := hide (bl_grown HB2.out hg1 (fun q hq => by injection hq with hq; omega))
  have HK1 := hide hk1
  clear hg1 hk1 B0 B1 HB2 HDA
  have d0 : w1.cell? ⟨w.heap.size, 0, none⟩ = some _ := C0.out.cell rfl
  have d2 : w1.cell? ⟨w.heap.size, 2, none⟩ = some _ := C0.out.cell rfl
  have d3 : w1.cell? ⟨w.heap.size, 3, none⟩ = some _ := C0.out.cell rfl
  have l0 := C0.out.lt
  cases hd1 : dirM n1 d.dir with
  | false =>
    obtain rfl : er = 9 := HNO.out (fun hv => by have := hv.1; rw [← HN1.out, hd1] at this; cases this)
    go_wp2
    go_ret
    exact ⟨rfl, HB1.out⟩
  | true =>
    have HD1 := hide hd1
    have BK1 := hide (HK1.out hd1)
    clear hd1 HK1
    rw [List.nil_append] at BK1
    go_wp2_with fail
    refine (HDB.out w1 d.dir HB1.out BK1.out).mono ?_
    rintro e w3 ⟨rfl, hg1, hk1⟩
    have E0 := hide (C0.out.grown hg1 (by intro e; injection e with e; omega))
    have HB3 := hide (bl_grown HB1.out hg1 (fun q hq => by injection hq with hq; omega))
    have HK3 := hide hk1
    clear hg1 hk1 C0 BK1 HB1 HDB d0 d2 d3 l0
    have d0 : w3.cell? ⟨w.heap.size, 0, none⟩ = some _ := E0.out.cell rfl
    have d2 : w3.cell? ⟨w.heap.size, 2, none⟩ = some _ := E0.out.cell rfl
    have d3 : w3.cell? ⟨w.heap.size, 3, none⟩ = some _ := E0.out.cell rfl
    have l0 := E0.out.lt
    cases hd2 : dirM n1 d.dur with
    | false =>
      obtain rfl : er = 9 := HNO.out (fun hv => by have := hv.2.1; rw [← HN1.out, hd2] at this; cases this)
      go_wp2
      go_ret
      exact ⟨rfl, HB3.out⟩
    | true =>
      have HD2 := hide hd2
      have BK3 := hide (HK3.out hd2)
      clear hd2 HK3
      go_wp2_with fail
      refine (HRC.out w3 HB3.out).mono ?_
      rintro e w4 ⟨rfl, hb4⟩
      have F0 := hide (E0.out.below hb4)
      have FK := hide (BK3.out.below hb4)
      have HB4 := hide (HB3.out.trans (hb4.mono HB3.out.size))
      clear hb4 E0 BK3 HB3 d0 d2 d3 l0 HRC
      have d0 : w4.cell? ⟨w.heap.size, 0, none⟩ = some _ := F0.out.cell rfl
      have d2 : w4.cell? ⟨w.heap.size, 2, none⟩ = some _ := F0.out.cell rfl
      have l0 := F0.out.lt
      by_cases hgt : n1 < cr
      · obtain rfl : er = 9 := HNO.out (fun hv => by have := hv.2.2.1; rw [HFM.out] at this; omega)
        have hgi : (n1 : Int) < (cr : Int) := by omega
        go_wp2
        go_ret
        exact ⟨rfl, bl_alloc HB4.out _⟩
      · have hgi : ¬ (n1 : Int) < (cr : Int) := by omega
        obtain ⟨W5, hW5⟩ : ∃ W5, W5 = w4.alloc (.cells [.int .i64 (cr : Int)].toArray 3) := ⟨_, rfl⟩
        have G0 := hide (show Blk W5 w.heap.size _ _ by rw [hW5]; exact F0.out.alloc _)
        have GK := hide (show Blk W5 (w.heap.size + 1) _ _ by rw [hW5]; exact FK.out.alloc _)
        obtain ⟨gn, hgn⟩ : ∃ gn, gn = w4.heap.size := ⟨_, rfl⟩
        have GN := hide (show Blk W5 gn [.int .i64 (cr : Int)] 3 by rw [hW5, hgn]; exact Blk.new _ _ _)
        have HB5 := hide (show Below w.heap.size w W5 by rw [hW5]; exact bl_alloc HB4.out _)
        have HCF := hide (containsf_any a3 n3 c3 d.dur w.heap.size gn (.slice a2 n2 c2) (.slice a3 n3 c3) (.slice a4 n4 c4) a1 n1 c1 cr _ _ W5 (H3.out.below HB5.out) (by omega) G0.out GN.out (by omega) (by omega))
        have HW5 := hide hW5
        have HGN := hide hgn
        clear hW5 hgn
        go_wp2_with fail
        have hw5 := HW5.out
        rw [← HGN.out, show w4.alloc (.cells #[.int .i64 (cr : Int)] 3) = W5 from hw5.symm]
        clear hw5 HW5 HGN F0 FK d0 d2 l0
        refine HCF.out.mono ?_
        rintro e w6 ⟨rfl, hb6⟩
        have I0 := hide (G0.out.below hb6)
        have IK := hide (GK.out.below hb6)
        have IN := hide (GN.out.below hb6)
        have HB6 := hide (HB5.out.trans (hb6.mono HB5.out.size))
        clear hb6 G0 GK GN HB5 HCF
        have d0 : w6.cell? ⟨w.heap.size, 0, none⟩ = some _ := I0.out.cell rfl
        cases han : d.dur.any fun e => decide ((n1 : Int) - (cr : Int) ≤ e.2) with
        | true =>
          obtain rfl : er = 9 := HNO.out (fun hv => by
            obtain ⟨e, he, hle⟩ := List.any_eq_true.1 han
            have := hv.2.2.2.1 e he
            rw [HFM.out] at this
            have hle' := of_decide_eq_true hle
            omega)
          clear han
          go_wp2
          go_ret
          exact ⟨rfl, HB6.out⟩
        | false =>
          have HAN := hide (show ∀ e ∈ d.dur, e.2 < firstM d from fun e he => by
            have := List.any_eq_false.1 han e he
            have h2 : e.2 < (n1 : Int) - (cr : Int) := by simpa using this
            rw [HFM.out]; exact h2)
          clear han
          go_wp2_with fail
          go_loopw [42] (fun kv wr => ∃ (k : Nat), kv = .int .i64 (k : Int) ∧ k ≤ n1 ∧ Hid (∀ i x, i < k → d.inodes[i]? = some x → inodeM d (firstM d) i x = true) ∧ Hid (Blk wr w.heap.size [.slice a1 n1 c1, .slice a2 n2 c2, .slice a3 n3 c3, .slice a4 n4 c4] 27) ∧ Hid (Blk wr (w.heap.size + 1) (knL (d.dir ++ d.dur) n1) 4) ∧ Hid (Blk wr gn [.int .i64 (cr : Int)] 3) ∧ Hid (Below w.heap.size w wr)) (fun kv _ => n1 - (intOf kv).toNat)
          case atStart => exact ⟨0, rfl, by omega, hide (fun i x h => absurd h (by omega)), I0, IK, IN, HB6⟩
          case round =>
            clear I0 IK IN HB6 d0
            obtain ⟨k, rfl, hk, HK, I0, IK, IN, HB6⟩ := hrel
            have d0 : wr.cell? ⟨w.heap.size, 0, none⟩ = some _ := I0.out.cell rfl
            have d1 : wr.cell? ⟨w.heap.size, 1, none⟩ = some _ := I0.out.cell rfl
            have d2 : wr.cell? ⟨w.heap.size, 2, none⟩ = some _ := I0.out.cell rfl
            have d3 : wr.cell? ⟨w.heap.size, 3, none⟩ = some _ := I0.out.cell rfl
            have nn : wr.cell? ⟨gn, 0, none⟩ = some _ := IN.out.cell rfl
            have l0 := I0.out.lt
            have lk := IK.out.lt
            have ln := IN.out.lt
            by_cases hlt : k < n1
            · obtain ⟨b, o, t, y, rfl, hbl, hx, e0, e1⟩ := (H1.out.below HB6.out).at_ hlt
              have hkn : (k : Int) < (n1 : Int) := by omega
              have HX := hide hx
              obtain ⟨kb, hkb⟩ : ∃ kb, kb = (d.dir ++ d.dur).any fun e => e.2 == (k : Int) := ⟨_, rfl⟩
              have zk : wr.cell? ⟨w.heap.size + 1, k, none⟩ = some (.bool kb) := IK.out.cell (by rw [knL_get hlt, hkb])
              have HKB := hide hkb
              obtain ⟨tl, htl⟩ : ∃ tl, tl = t.length := ⟨_, rfl⟩
              have hsz : (bstr t).size = tl := by rw [htl]; rfl
              have HTL := hide htl
              have HBN := hide (bl_alloc HB6.out (.cells #[.string (bstr t), .int .i64 y] 33))
              clear hx hbl hkb htl
              cases kb with
              | true =>
                skip
                by_cases hy0 : y < 0
                · skip
                  obtain rfl : er = 9 := HNO.out (fun hv => by
                    have := hv.2.2.2.2.1 k _ HX.out
                    unfold inodeM at this
                    simp only [Bool.and_eq_true, Bool.or_eq_true, decide_eq_true_eq] at this
                    omega)
                  go_wp2
                  go_ret
                  exact ⟨rfl, HBN.out⟩
                by_cases hyl : (tl : Int) < y
                · skip
                  obtain rfl : er = 9 := HNO.out (fun hv => by
                    have := hv.2.2.2.2.1 k _ HX.out
                    unfold inodeM at this
                    simp only [Bool.and_eq_true, Bool.or_eq_true, decide_eq_true_eq] at this
                    (have h7 := HTL.out; omega))
                  go_wp2
                  go_ret
                  exact ⟨rfl, HBN.out⟩
                by_cases htm : (1048576 : Int) < (tl : Int)
                · skip
                  obtain rfl : er = 9 := HNO.out (fun hv => by
                    have := hv.2.2.2.2.1 k _ HX.out
                    unfold inodeM at this
                    simp only [Bool.and_eq_true, Bool.or_eq_true, decide_eq_true_eq] at this
                    (have h7 := HTL.out; omega))
                  go_wp2
                  go_ret
                  exact ⟨rfl, HBN.out⟩
                go_wp2
                go_roundw
                case rel =>
                  refine ⟨k + 1, by go_num, by omega, hide (fun i x hi hx => ?_), hide (I0.out.alloc _), hide (IK.out.alloc _), hide (IN.out.alloc _), HBN⟩
                  by_cases hik : i = k
                  · subst hik
                    rw [HX.out] at hx
                    injection hx with hx
                    subst hx
                    have h7 := HTL.out
                    unfold inodeM
                    simp only [Bool.and_eq_true, Bool.or_eq_true, decide_eq_true_eq]
                    exact ⟨⟨⟨(by have := HKB.out.symm; rw [List.any_append, Bool.or_eq_true] at this; exact this.elim (fun h => .inl (.inr h)) .inr), by omega⟩, by omega⟩, by omega⟩
                  · exact HK.out i x (by omega) hx
                case measure => simp [intOf]; omega
              | false =>
                by_cases hkc : (k : Int) < (n1 : Int) - (cr : Int)
                · skip
                  obtain rfl : er = 9 := HNO.out (fun hv => by
                    have := hv.2.2.2.2.1 k _ HX.out
                    unfold inodeM at this
                    simp only [Bool.and_eq_true, Bool.or_eq_true, decide_eq_true_eq] at this
                    (have h8 := HKB.out.symm; rw [List.any_append, Bool.or_eq_false_iff] at h8; rw [h8.1, h8.2, HFM.out] at this; have := this.1.1.1; simp at this; omega))
                  go_wp2
                  go_ret
                  exact ⟨rfl, HBN.out⟩
                · skip
                  by_cases hy0 : y < 0
                  · skip
                    obtain rfl : er = 9 := HNO.out (fun hv => by
                      have := hv.2.2.2.2.1 k _ HX.out
                      unfold inodeM at this
                      simp only [Bool.and_eq_true, Bool.or_eq_true, decide_eq_true_eq] at this
                      omega)
                    go_wp2
                    go_ret
                    exact ⟨rfl, HBN.out⟩
                  by_cases hyl : (tl : Int) < y
                  · skip
                    obtain rfl : er = 9 := HNO.out (fun hv => by
                      have := hv.2.2.2.2.1 k _ HX.out
                      unfold inodeM at this
                      simp only [Bool.and_eq_true, Bool.or_eq_true, decide_eq_true_eq] at this
                      (have h7 := HTL.out; omega))
                    go_wp2
                    go_ret
                    exact ⟨rfl, HBN.out⟩
                  by_cases htm : (1048576 : Int) < (tl : Int)
                  · skip
                    obtain rfl : er = 9 := HNO.out (fun hv => by
                      have := hv.2.2.2.2.1 k _ HX.out
                      unfold inodeM at this
                      simp only [Bool.and_eq_true, Bool.or_eq_true, decide_eq_true_eq] at this
                      (have h7 := HTL.out; omega))
                    go_wp2
                    go_ret
                    exact ⟨rfl, HBN.out⟩
                  go_wp2
                  go_roundw
                  case rel =>
                    refine ⟨k + 1, by go_num, by omega, hide (fun i x hi hx => ?_), hide (I0.out.alloc _), hide (IK.out.alloc _), hide (IN.out.alloc _), HBN⟩
                    by_cases hik : i = k
                    · subst hik
                      rw [HX.out] at hx
                      injection hx with hx
                      subst hx
                      have h7 := HTL.out
                      unfold inodeM
                      simp only [Bool.and_eq_true, Bool.or_eq_true, decide_eq_true_eq]
                      exact ⟨⟨⟨(.inl (.inl (by rw [HFM.out]; omega))), by omega⟩, by omega⟩, by omega⟩
                    · exact HK.out i x (by omega) hx
                  case measure => simp [intOf]; omega
            · obtain rfl : k = n1 := by omega
              have hkn : ¬ (k : Int) < (k : Int) := by omega
              have HIN := hide (show ∀ i x, d.inodes[i]? = some x → inodeM d (firstM d) i x = true from fun i x hx => HK.out i x (by rw [HN1.out]; exact (List.getElem?_eq_some_iff.1 hx).1) hx)
              have HRP := hide (replay_any _ d a4 n4 c4 d.ops wr (HD0.out.below HB6.out) (H4.out.below HB6.out) (by omega) ⟨HS.out.1, HS.out.2.2.1, HS.out.2.2.2⟩ (srt_dir HD2.out) (by rw [HFM.out]; omega))
              obtain ⟨rp, hrp⟩ : ∃ rp, rp = repM d.dur (firstM d) d.ops := ⟨_, rfl⟩
              rw [← hrp] at HRP
              have HRQ := hide hrp
              clear hrp nn lk ln
              go_wp2_with fail
              refine HRP.out.mono ?_
              rintro e w7 ⟨hb7, hno, hok⟩
              have J0 := hide (I0.out.below hb7)
              have HB7 := hide (HB6.out.trans (hb7.mono HB6.out.size))
              clear hb7 d0 d1 d2 d3 l0
              have d1 : w7.cell? ⟨w.heap.size, 1, none⟩ = some _ := J0.out.cell rfl
              cases rp with
              | none =>
                obtain rfl := hno rfl
                obtain rfl : er = 9 := HNO.out (fun hv => by have := hv.2.2.2.2.2; rw [← HRQ.out] at this; cases this)
                clear hno hok
                go_wp2
                go_ret
                exact ⟨rfl, HB7.out⟩
              | some l =>
                obtain ⟨v7, rfl, ho7⟩ := hok l rfl
                obtain ⟨A7, p7, rfl, hp7, hm7, hr7⟩ := own_RE ho7 rfl
                have hl7 : l.length ≤ 1000000 := by have := rep_len HRQ.out.symm; have := HS.out.2.2.1; have := HS.out.2.2.2; omega
                have HEQ := hide (equal_any A7 l.length p7 l a2 n2 c2 d.dir w7 hr7 (H2.out.below HB7.out) hl7 (by omega))
                clear hno hok ho7 hr7 hm7
                go_wp2_with fail
                refine HEQ.out.mono ?_
                rintro e w8 ⟨rfl, hb8⟩
                have HB8 := hide (HB7.out.trans (hb8.mono HB7.out.size))
                clear hb8
                by_cases hld : l = d.dir
                · obtain rfl : er = 0 := HYES.out ⟨by rw [← HN1.out]; exact HD1.out, by rw [← HN1.out]; exact HD2.out, by rw [HFM.out]; omega, HAN.out, HIN.out, by rw [← HRQ.out, hld]⟩
                  rw [decide_eq_true hld]
                  clear hld
                  go_wp2
                  go_ret
                  exact ⟨rfl, HB8.out⟩
                · obtain rfl : er = 9 := HNO.out (fun hv => by have := hv.2.2.2.2.2; rw [← HRQ.out] at this; injection this with this; exact hld this)
                  rw [decide_eq_false hld]
                  clear hld
                  go_wp2
                  go_ret
                  exact ⟨rfl, HB8.out⟩
end Go.Proofs.Ytjpmfiicbokdcaa
