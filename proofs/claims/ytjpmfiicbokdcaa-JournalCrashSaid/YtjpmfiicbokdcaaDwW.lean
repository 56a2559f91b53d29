/- The walk of the program's replay. -/
import Derived.Test.YtjpmfiicbokdcaaDvW
namespace Go.Proofs.Ytjpmfiicbokdcaa
open Go.RowKit
set_option linter.unusedVariables false
set_option linter.unusedSimpArgs false
/-! ### A step of the reference and a change of the program -/
theorem step_chg1 (l : List Ent) (o : DOp) (nx : Int) (hk : o.1 = 1 ∨ o.1 = 4 ∨ o.1 = 5) (hf : fieldsM o = true) : stepM l o nx = chgM l o nx := by
  obtain ⟨k, s, t, d⟩ := o
  unfold fieldsM at hf
  unfold stepM chgM
  rcases hk with hk | hk | hk <;> simp only [] at hk <;> subst hk <;> simp at hf <;> simp [hf]
theorem step_chg0 (l : List Ent) (o : DOp) (nx : Int) (h : (¬ (o.1 = 1 ∨ o.1 = 4 ∨ o.1 = 5)) ∨ fieldsM o = false) : (stepM l o nx).2 ≠ 0 := by
  obtain ⟨k, s, t, d⟩ := o
  unfold fieldsM at h
  unfold stepM
  simp only [] at h ⊢
  by_cases h1 : k = 1
  · subst h1
    simp at h
    rw [if_pos rfl, if_pos (by by_cases ht : t = []; exact .inr (h ht); exact .inl ht)]
    decide
  · by_cases h4 : k = 4
    · subst h4
      simp at h
      rw [if_neg h1, if_pos rfl, if_pos (by simpa using h)]
      decide
    · by_cases h5 : k = 5
      · subst h5
        simp at h
        rw [if_neg h1, if_neg h4, if_pos rfl, if_pos (by by_cases ht : t = []; exact .inr (h ht); exact .inl ht)]
        decide
      · rw [if_neg h1, if_neg h4, if_neg h5]
        decide
/-! ### Order is kept -/
theorem has_mem {l : List Ent} {s : List UInt8} (h : hasM l s = false) : ∀ e ∈ l, e.1 ≠ s := by
  intro e he hs
  unfold hasM at h
  rw [List.any_eq_false] at h
  exact h e he (by simpa using hs)
theorem srt_ins {l : List Ent} {x : Ent} (h : Srt l) (hh : hasM l x.1 = false) : Srt (insM l x) := by
  have hp := pos_facts h x.1
  rw [ins_pos]
  unfold Srt
  rw [List.pairwise_append, List.pairwise_cons]
  refine ⟨h.sublist (List.take_sublist _ _), ⟨fun e he => ?_, h.sublist (List.drop_sublist _ _)⟩, fun e he f hf => ?_⟩
  · obtain ⟨k, hk, rfl⟩ := List.mem_iff_getElem.1 he
    rw [List.length_drop] at hk
    rw [List.getElem_drop]
    have h2 := hp.2 (posM l x.1 + k) _ (by omega) (List.getElem?_eq_getElem (by omega))
    rcases h3 : nlt x.1 (l[posM l x.1 + k]).1 with _ | _
    · exact absurd (nlt_total h2 h3) (has_mem hh _ (List.getElem_mem _))
    · rfl
  · obtain ⟨k, hk, rfl⟩ := List.mem_iff_getElem.1 he
    rw [List.length_take] at hk
    rw [List.getElem_take]
    rcases List.mem_cons.1 hf with rfl | hf
    · exact hp.1 k _ (by omega) (List.getElem?_eq_getElem (by omega))
    · obtain ⟨j, hj, rfl⟩ := List.mem_iff_getElem.1 hf
      rw [List.length_drop] at hj
      rw [List.getElem_drop]
      exact h.lt (show k < posM l x.1 + j by omega) (List.getElem?_eq_getElem (by omega)) (List.getElem?_eq_getElem (by omega))
theorem drop_gone (l : List Ent) (s : List UInt8) : hasM (dropM l s) s = false := by
  unfold hasM dropM
  rw [List.any_eq_false]
  intro e he
  have := (List.mem_filter.1 he).2
  simpa using this
theorem srt_step {l : List Ent} {o : DOp} {nx : Int} (h : Srt l) : Srt (stepM l o nx).1 := by
  have h0 : Srt [] := List.Pairwise.nil
  unfold stepM
  split
  · split
    · exact h0
    · split
      · exact h0
      · split
        · exact h0
        · rename_i hh
          exact srt_ins h (by simpa using hh)
  · split
    · split
      · exact h0
      · split
        · exact h0
        · split
          · exact h0
          · split
            · exact h0
            · exact srt_ins (srt_drop (srt_drop h _) _) (drop_gone _ _)
    · split
      · split
        · exact h0
        · split
          · exact h0
          · exact srt_drop h _
      · exact h0
theorem srt_dir {n : Nat} {l : List Ent} (h : dirM n l = true) : Srt l := by
  unfold dirM at h
  simp only [Bool.and_eq_true, decide_eq_true_eq, List.all_eq_true] at h
  exact h.1.2
set_option maxHeartbeats 8000000 in
set_option maxRecDepth 100000 in
theorem replay_any (v : Value) (d : Dsk) (b : Option Addr) (m cb : Nat) (ops : List DOp) (w : World) (h : IsD w v d) (hop : RO w b m ops) (hm : m ≤ 100000) (hs : d.inodes.length ≤ 100000 ∧ d.dur.length ≤ 100000 ∧ d.ops.length ≤ 100000) (hsr : Srt d.dur) (hf : 0 ≤ firstM d) :
    Calls Try.prog 42 #[v, .slice b m cb] w (RepP w (repM d.dur (firstM d) ops)) := by
  obtain ⟨a1, n1, c1, a2, n2, c2, a3, n3, c3, a4, n4, c4, rfl, h1, h2, h3, h4, -⟩ := h.h
  have H3 := hide h3
  have H4 := hide h4
  have HOP := hide hop
  have HMN := hide (show m = ops.length from hop.1)
  have HSR := hide hsr
  obtain ⟨fm, hfm⟩ : ∃ fm, fm = firstM d := ⟨_, rfl⟩
  have HFM := hide (show fm = (n1 : Int) - ((creM d.ops : Nat) : Int) by rw [hfm]; unfold firstM; rw [h1.1])
  obtain ⟨tot, htot⟩ : ∃ tot, tot = repM d.dur fm ops := ⟨_, rfl⟩
  rw [← hfm, ← htot]
  rw [← hfm] at hf
  have HT := hide htot
  have hn1 : n1 ≤ 100000 := by rw [h1.1]; exact hs.1
  have hn3 : n3 ≤ 100000 := by rw [h3.1]; exact hs.2.1
  have hn4 : n4 ≤ 100000 := by rw [h4.1]; exact hs.2.2
  have HN3 := hide (show n3 = d.dur.length from h3.1)
  have hcr : creM d.ops ≤ n4 := by rw [h4.1]; exact List.countP_le_length
  clear h h1 h2 h3 h4 hop hs hsr hfm htot
  obtain ⟨W0, hW0⟩ : ∃ W0, W0 = w.alloc (.cells [.slice a1 n1 c1, .slice a2 n2 c2, .slice a3 n3 c3, .slice a4 n4 c4].toArray 27) := ⟨_, rfl⟩
  have B0 := hide (show Blk W0 w.heap.size [.slice a1 n1 c1, .slice a2 n2 c2, .slice a3 n3 c3, .slice a4 n4 c4] 27 by rw [hW0]; exact Blk.new w _ _)
  have HB0 := hide (show Below w.heap.size w W0 by rw [hW0]; exact bl_alloc (bl_refl w) _)
  have HCL := hide (cloneE_any a3 n3 c3 d.dur W0 (H3.out.below HB0.out) (by omega))
  have HW0 := hide hW0
  clear hW0
  go_enter Try.func42, Try.ntmps42
  go_wp2_with fail
  rw [← HW0.out]
  clear HW0
  refine HCL.out.mono ?_
  rintro e w1 ⟨v1, rfl, ho1, hb1⟩
  have B1 := hide (B0.out.below hb1)
  have HB1 := hide (HB0.out.trans (hb1.mono HB0.out.size))
  have HO1 := hide (own_baseG ho1 HB0.out.size)
  clear ho1 hb1 HCL
  go_wp2_with fail
  have HCC := hide (fun (wx : World) (hC : CB w1.drew wx) => show wx.cell? ⟨w.heap.size, 0, none⟩ = some (.slice a1 n1 c1) ∧ wx.cell? ⟨w.heap.size, 3, none⟩ = some (.slice a4 n4 c4) from ⟨(B1.out.below hC.below).cell rfl, (B1.out.below hC.below).cell rfl⟩)
  obtain ⟨cr, hcre⟩ : ∃ cr, cr = creM d.ops := ⟨_, rfl⟩
  have HRC := hide (fun (wx : World) (hb : Below w.heap.size w wx) => created_any a4 n4 c4 d.ops wx (H4.out.below hb) (by omega))
  rw [← hcre] at HRC HFM hcr
  have hfme : (n1 : Int) - (cr : Int) = fm := HFM.out.symm
  have ewf : IntKind.i64.wrap fm = fm := wrap_ok (by omega) (by omega)
  have hfm9 : fm ≤ 100000 := by omega
  clear hcre
  refine wp_region_K 8 (by kernel_rfl) (by kernel_rfl) (fun Q HQ => ?_)
  simp only [List.take_succ_cons, List.take_zero, List.map_cons, List.map_nil]
  repeat
    first | apply wpS_c rfl | apply wpS_gc rfl (guard_mk rfl rfl)
    focus
      intro ev wx hC hx
      (try simp [Op.operands, Call.operands, opndS, Slot.holds] at hx)
      obtain ⟨k0, k3⟩ := HCC.out wx hC
      go_simp
      try (first | exact rfl | exact ⟨Below.refl _ _, rfl⟩ | (go_at_call 39; refine (HRC.out _ (HB1.out.trans (hC.below.mono HB1.out.size))).mono ?_; rintro e w' ⟨rfl, hb⟩; exact ⟨rfl, hb⟩))
      done
    dsimp only [setS, List.set]
  refine wpS_nil (HQ _ fun w8 hC8 => ?_)
  simp only [closeS, List.drop_succ_cons, List.drop_zero, List.drop_nil]
  have HB8 := hide (HB1.out.trans (hC8.below.mono HB1.out.size))
  have HO8 := hide (ownG_below HO1.out hC8.below)
  have HT8 := hide (show tot = repM d.dur fm (ops.drop 0) from HT.out)
  clear HQ hC8 ewf hfme hcr HCC B1 HB1 HO1
  go_wp2_with fail
  go_loopw [6, 7, 24] (fun ov nv' kv wr => ∃ (i : Nat) (li : List Ent) (nx : Int), kv = .int .i64 (i : Int) ∧ nv' = .int .i64 nx ∧ i ≤ m ∧ 0 ≤ nx ∧ nx ≤ 100000 + (i : Int) ∧ Hid (Srt li) ∧ Hid (li.length ≤ 100000 + i) ∧ Hid (tot = repM li nx (ops.drop i)) ∧ Hid (wr.ownsRow w.heap.size 35 2 ov li.length (li.flatMap encE)) ∧ Hid (Below w.heap.size w wr)) (fun _ _ kv _ => m - (intOf kv).toNat)
  case atStart => exact ⟨0, d.dur, fm, rfl, rfl, by omega, hf, by omega, HSR, hide (by rw [← HN3.out]; omega), HT8, by rw [← HN3.out]; exact HO8, HB8⟩
  case round =>
    obtain ⟨i, li, nx, rfl, rfl, hi, hx0, hx1, HSI, HLI, HTI, HOI, HBI⟩ := hrel
    by_cases hlt : i < m
    · obtain ⟨bb, o, kd, s, t, dd, rfl, hbl, hx, g0, g1, g2, g3⟩ := (HOP.out.below HBI.out).at_ (k := i) hlt
      have him : (i : Int) < (m : Int) := by omega
      have hdr : ops.drop i = (kd, s, t, dd) :: ops.drop (i + 1) := by
        obtain ⟨p1, p2⟩ := List.getElem?_eq_some_iff.1 hx
        rw [← p2, List.drop_eq_getElem_cons p1]
      have hti := HTI.out
      rw [hdr, repM] at hti
      have HTN := hide hti
      obtain ⟨A6, c6, rfl, hc6, hm6, hr6⟩ := own_RE HOI.out rfl
      have HBN := hide (bl_alloc HBI.out (.cells #[.int .i64 kd, .string (bstr s), .string (bstr t), .string (bstr dd)] 48))
      obtain ⟨ln, hln⟩ : ∃ ln, ln = li.length := ⟨_, rfl⟩
      have hln9 : ln ≤ 200000 := by rw [hln]; have := HLI.out; omega
      have HLN := hide hln
      rw [← hln] at HOI hc6 ⊢
      obtain ⟨wa, hwa⟩ : ∃ wa, wa = wr.alloc (.cells #[.int .i64 kd, .string (bstr s), .string (bstr t), .string (bstr dd)] 48) := ⟨_, rfl⟩
      have D0 := hide (show Blk wa wr.heap.size [.int .i64 kd, .string (bstr s), .string (bstr t), .string (bstr dd)] 48 by rw [hwa]; exact Blk.new wr _ _)
      have DO := hide (show wa.ownsRow w.heap.size 35 2 (.slice A6 ln c6) ln (li.flatMap encE) by rw [hwa]; exact ownG_below HOI.out (bl_alloc (bl_refl _) _))
      rw [← hwa] at HBN
      have HRB := hide (fun q (hq : (Value.slice A6 ln c6).ownBlock = some q) => show w.heap.size ≤ q ∧ q < wr.heap.size from ownG_lt HOI.out hq)
      have HWA := hide hwa
      have HFD := hide (fun (wx : World) => fields_any (kd, s, t, dd) wx)
      unfold oV at HFD
      simp only [] at HFD
      clear hwa hx hdr hti hr6 hln hbl hm6
      by_cases hkk : kd = 1 ∨ kd = 4 ∨ kd = 5
      · skip
        rcases hkk with hkk | hkk | hkk
        · skip
          subst hkk
          go_wp2_with fail
          rw [← HWA.out]
          clear HWA g0 g1 g2 g3
          refine (HFD.out wa).mono ?_
          rintro e w2 ⟨rfl, hb2⟩
          have E0 := hide (D0.out.below hb2)
          have EO := hide (ownG_below DO.out hb2)
          have HB2 := hide (HBN.out.trans (hb2.mono HBN.out.size))
          have HS2 := hide (show wr.heap.size < w2.heap.size from (D0.out.below hb2).lt)
          clear hb2 D0 DO HBN
          have c0 : w2.cell? ⟨wr.heap.size, 0, none⟩ = some _ := E0.out.cell rfl
          have c1 : w2.cell? ⟨wr.heap.size, 1, none⟩ = some _ := E0.out.cell rfl
          have c2 : w2.cell? ⟨wr.heap.size, 2, none⟩ = some _ := E0.out.cell rfl
          have c3 : w2.cell? ⟨wr.heap.size, 3, none⟩ = some _ := E0.out.cell rfl
          cases hfd : fieldsM ((1 : Int), s, t, dd) with
          | false =>
            have hn := HTN.out
            rw [if_neg (step_chg0 _ _ _ (.inr hfd))] at hn
            have HNN := hide hn
            clear hn hfd
            go_wp2
            go_ret2
            exact .no HB2.out HNN.out rfl
          | true =>
            have hst1 := step_chg1 li ((1 : Int), s, t, dd) nx (by simp) hfd
            have HCH := hide (change_any w.heap.size A6 ln c6 li ((1 : Int), s, t, dd) nx w2 EO.out (by omega) HLN.out HSI.out (Nat.le_of_lt (Nat.lt_of_le_of_lt HBI.out.size HS2.out)))
            have hsn : Srt (stepM li ((1 : Int), s, t, dd) nx).1 := srt_step HSI.out
            have hsl := step_len li ((1 : Int), s, t, dd) nx
            rw [← hst1] at HCH
            obtain ⟨⟨l2, er⟩, hst⟩ : ∃ r, r = stepM li ((1 : Int), s, t, dd) nx := ⟨_, rfl⟩
            rw [← hst] at HCH HTN hsn hsl
            unfold oV at HCH
            simp only [] at HCH HTN hsn hsl
            have HSN := hide hsn
            have HL2 := hide (show l2.length ≤ 100000 + (i + 1) by have := HLI.out; omega)
            clear hfd hst1 hst hsn hsl
            go_wp2_with fail
            refine HCH.out.mono ?_
            rintro e w3 ⟨v3, rfl, hg3, ho3, -⟩
            have F0 := hide (E0.out.grown hg3 (fun e => by have := (HRB.out _ e).2; omega))
            have HO3 := hide ho3
            have HB3 := hide (bl_grown HB2.out hg3 (fun q hq => (HRB.out q hq).1))
            clear hg3 ho3 HCH c0 c1 c2 c3
            have c0 : w3.cell? ⟨wr.heap.size, 0, none⟩ = some _ := F0.out.cell rfl
            simp only []
            by_cases her : er = 0
            · subst her
              rw [if_pos rfl] at HTN
              rw [if_pos trivial] at HTN
              go_wp2
              go_roundw
              case rel => exact ⟨i + 1, l2, (nx + 1), by go_num, rfl, by omega, by omega, by omega, HSN, HL2, HTN, HO3, HB3⟩
              case measure => simp [intOf]; omega
            · rw [if_neg her] at HTN
              obtain ⟨ei, hei⟩ : ∃ ei : Int, ei = (er : Int) := ⟨_, rfl⟩
              have h0i : (ei == 0) = false := by rw [beq_eq_false_iff_ne]; omega
              have h0j : (ei != 0) = true := by simp only [bne, h0i]; rfl
              rw [← hei]
              clear hei her
              go_wp2
              go_ret2
              exact .no HB3.out HTN.out rfl
        · skip
          subst hkk
          go_wp2_with fail
          rw [← HWA.out]
          clear HWA g0 g1 g2 g3
          refine (HFD.out wa).mono ?_
          rintro e w2 ⟨rfl, hb2⟩
          have E0 := hide (D0.out.below hb2)
          have EO := hide (ownG_below DO.out hb2)
          have HB2 := hide (HBN.out.trans (hb2.mono HBN.out.size))
          have HS2 := hide (show wr.heap.size < w2.heap.size from (D0.out.below hb2).lt)
          clear hb2 D0 DO HBN
          have c0 : w2.cell? ⟨wr.heap.size, 0, none⟩ = some _ := E0.out.cell rfl
          have c1 : w2.cell? ⟨wr.heap.size, 1, none⟩ = some _ := E0.out.cell rfl
          have c2 : w2.cell? ⟨wr.heap.size, 2, none⟩ = some _ := E0.out.cell rfl
          have c3 : w2.cell? ⟨wr.heap.size, 3, none⟩ = some _ := E0.out.cell rfl
          cases hfd : fieldsM ((4 : Int), s, t, dd) with
          | false =>
            have hn := HTN.out
            rw [if_neg (step_chg0 _ _ _ (.inr hfd))] at hn
            have HNN := hide hn
            clear hn hfd
            go_wp2
            go_ret2
            exact .no HB2.out HNN.out rfl
          | true =>
            have hst1 := step_chg1 li ((4 : Int), s, t, dd) nx (by simp) hfd
            have HCH := hide (change_any w.heap.size A6 ln c6 li ((4 : Int), s, t, dd) nx w2 EO.out (by omega) HLN.out HSI.out (Nat.le_of_lt (Nat.lt_of_le_of_lt HBI.out.size HS2.out)))
            have hsn : Srt (stepM li ((4 : Int), s, t, dd) nx).1 := srt_step HSI.out
            have hsl := step_len li ((4 : Int), s, t, dd) nx
            rw [← hst1] at HCH
            obtain ⟨⟨l2, er⟩, hst⟩ : ∃ r, r = stepM li ((4 : Int), s, t, dd) nx := ⟨_, rfl⟩
            rw [← hst] at HCH HTN hsn hsl
            unfold oV at HCH
            simp only [] at HCH HTN hsn hsl
            have HSN := hide hsn
            have HL2 := hide (show l2.length ≤ 100000 + (i + 1) by have := HLI.out; omega)
            clear hfd hst1 hst hsn hsl
            go_wp2_with fail
            refine HCH.out.mono ?_
            rintro e w3 ⟨v3, rfl, hg3, ho3, -⟩
            have F0 := hide (E0.out.grown hg3 (fun e => by have := (HRB.out _ e).2; omega))
            have HO3 := hide ho3
            have HB3 := hide (bl_grown HB2.out hg3 (fun q hq => (HRB.out q hq).1))
            clear hg3 ho3 HCH c0 c1 c2 c3
            have c0 : w3.cell? ⟨wr.heap.size, 0, none⟩ = some _ := F0.out.cell rfl
            simp only []
            by_cases her : er = 0
            · subst her
              rw [if_pos rfl] at HTN
              rw [if_neg (by decide)] at HTN
              go_wp2
              go_roundw
              case rel => exact ⟨i + 1, l2, nx, by go_num, rfl, by omega, by omega, by omega, HSN, HL2, HTN, HO3, HB3⟩
              case measure => simp [intOf]; omega
            · rw [if_neg her] at HTN
              obtain ⟨ei, hei⟩ : ∃ ei : Int, ei = (er : Int) := ⟨_, rfl⟩
              have h0i : (ei == 0) = false := by rw [beq_eq_false_iff_ne]; omega
              have h0j : (ei != 0) = true := by simp only [bne, h0i]; rfl
              rw [← hei]
              clear hei her
              go_wp2
              go_ret2
              exact .no HB3.out HTN.out rfl
        · skip
          subst hkk
          go_wp2_with fail
          rw [← HWA.out]
          clear HWA g0 g1 g2 g3
          refine (HFD.out wa).mono ?_
          rintro e w2 ⟨rfl, hb2⟩
          have E0 := hide (D0.out.below hb2)
          have EO := hide (ownG_below DO.out hb2)
          have HB2 := hide (HBN.out.trans (hb2.mono HBN.out.size))
          have HS2 := hide (show wr.heap.size < w2.heap.size from (D0.out.below hb2).lt)
          clear hb2 D0 DO HBN
          have c0 : w2.cell? ⟨wr.heap.size, 0, none⟩ = some _ := E0.out.cell rfl
          have c1 : w2.cell? ⟨wr.heap.size, 1, none⟩ = some _ := E0.out.cell rfl
          have c2 : w2.cell? ⟨wr.heap.size, 2, none⟩ = some _ := E0.out.cell rfl
          have c3 : w2.cell? ⟨wr.heap.size, 3, none⟩ = some _ := E0.out.cell rfl
          cases hfd : fieldsM ((5 : Int), s, t, dd) with
          | false =>
            have hn := HTN.out
            rw [if_neg (step_chg0 _ _ _ (.inr hfd))] at hn
            have HNN := hide hn
            clear hn hfd
            go_wp2
            go_ret2
            exact .no HB2.out HNN.out rfl
          | true =>
            have hst1 := step_chg1 li ((5 : Int), s, t, dd) nx (by simp) hfd
            have HCH := hide (change_any w.heap.size A6 ln c6 li ((5 : Int), s, t, dd) nx w2 EO.out (by omega) HLN.out HSI.out (Nat.le_of_lt (Nat.lt_of_le_of_lt HBI.out.size HS2.out)))
            have hsn : Srt (stepM li ((5 : Int), s, t, dd) nx).1 := srt_step HSI.out
            have hsl := step_len li ((5 : Int), s, t, dd) nx
            rw [← hst1] at HCH
            obtain ⟨⟨l2, er⟩, hst⟩ : ∃ r, r = stepM li ((5 : Int), s, t, dd) nx := ⟨_, rfl⟩
            rw [← hst] at HCH HTN hsn hsl
            unfold oV at HCH
            simp only [] at HCH HTN hsn hsl
            have HSN := hide hsn
            have HL2 := hide (show l2.length ≤ 100000 + (i + 1) by have := HLI.out; omega)
            clear hfd hst1 hst hsn hsl
            go_wp2_with fail
            refine HCH.out.mono ?_
            rintro e w3 ⟨v3, rfl, hg3, ho3, -⟩
            have F0 := hide (E0.out.grown hg3 (fun e => by have := (HRB.out _ e).2; omega))
            have HO3 := hide ho3
            have HB3 := hide (bl_grown HB2.out hg3 (fun q hq => (HRB.out q hq).1))
            clear hg3 ho3 HCH c0 c1 c2 c3
            have c0 : w3.cell? ⟨wr.heap.size, 0, none⟩ = some _ := F0.out.cell rfl
            simp only []
            by_cases her : er = 0
            · subst her
              rw [if_pos rfl] at HTN
              rw [if_neg (by decide)] at HTN
              go_wp2
              go_roundw
              case rel => exact ⟨i + 1, l2, nx, by go_num, rfl, by omega, by omega, by omega, HSN, HL2, HTN, HO3, HB3⟩
              case measure => simp [intOf]; omega
            · rw [if_neg her] at HTN
              obtain ⟨ei, hei⟩ : ∃ ei : Int, ei = (er : Int) := ⟨_, rfl⟩
              have h0i : (ei == 0) = false := by rw [beq_eq_false_iff_ne]; omega
              have h0j : (ei != 0) = true := by simp only [bne, h0i]; rfl
              rw [← hei]
              clear hei her
              go_wp2
              go_ret2
              exact .no HB3.out HTN.out rfl
      · have hk1 : (kd == 1) = false := by rw [beq_eq_false_iff_ne]; exact fun h => hkk (.inl h)
        have hk4 : (kd == 4) = false := by rw [beq_eq_false_iff_ne]; exact fun h => hkk (.inr (.inl h))
        have hk5 : (kd == 5) = false := by rw [beq_eq_false_iff_ne]; exact fun h => hkk (.inr (.inr h))
        have hn := HTN.out
        rw [if_neg (step_chg0 _ _ _ (.inl hkk))] at hn
        have HNN := hide hn
        have m1 : (kd != 1) = true := by simp only [bne, hk1]; rfl
        have m4 : (kd != 4) = true := by simp only [bne, hk4]; rfl
        have m5 : (kd != 5) = true := by simp only [bne, hk5]; rfl
        have j1 : ¬ kd = 1 := fun h => hkk (.inl h)
        have j4 : ¬ kd = 4 := fun h => hkk (.inr (.inl h))
        have j5 : ¬ kd = 5 := fun h => hkk (.inr (.inr h))
        clear hn hkk
        go_wp2
        go_ret2
        have hw := HWA.out
        subst hw
        exact .no HBN.out HNN.out rfl
    · obtain rfl : i = m := by omega
      have him : ¬ (i : Int) < (i : Int) := by omega
      have HR := hide (show tot = some li by rw [HTI.out, List.drop_of_length_le (by rw [← HMN.out]; exact Nat.le_refl _)]; rfl)
      go_wp2
      go_ret2
      exact .ok HBI.out HR.out rfl HOI.out
end Go.Proofs.Ytjpmfiicbokdcaa
