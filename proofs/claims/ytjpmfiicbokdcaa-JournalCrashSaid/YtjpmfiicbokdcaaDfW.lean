/- The walk of the reference's replay. -/
import Derived.Test.YtjpmfiicbokdcaaDeW
namespace Go.Proofs.Ytjpmfiicbokdcaa
open Go.RowKit
set_option linter.unusedVariables false
set_option linter.unusedSimpArgs false
theorem heap_alloc_eq {w : World} {g : Nat} (hg : g = w.heap.size) (C : Obj) : (w.alloc C).heap[g]? = some C := by subst hg; exact heap_alloc_new w C
def nnE (l : List Ent) : Prop := ∀ e ∈ l, 0 ≤ e.2
theorem mem_ins {l : List Ent} {x e : Ent} (h : e ∈ insM l x) : e = x ∨ e ∈ l := by
  unfold insM at h
  rcases List.mem_append.1 h with h | h
  · exact .inr ((List.takeWhile_sublist _).subset h)
  · rcases List.mem_cons.1 h with h | h
    · exact .inl h
    · exact .inr ((List.dropWhile_sublist _).subset h)
theorem mem_drop {l : List Ent} {s : List UInt8} {e : Ent} (h : e ∈ dropM l s) : e ∈ l := (List.mem_filter.1 h).1
theorem step_nn {l : List Ent} {o : DOp} {nx : Int} (h : nnE l) (hn : 0 ≤ nx) (h0 : (stepM l o nx).2 = 0) : nnE (stepM l o nx).1 := by
  intro e he
  unfold stepM at he h0
  by_cases h1 : o.1 = 1
  · rw [if_pos h1] at he h0
    split at he
    · simp at he
    · split at he
      · simp at he
      · split at he
        · simp at he
        · rcases mem_ins he with rfl | he
          · exact hn
          · exact h e he
  · rw [if_neg h1] at he h0
    by_cases h4 : o.1 = 4
    · rw [if_pos h4] at he h0
      split at he
      · simp at he
      · split at he
        · simp at he
        · rename_i hh
          split at he
          · simp at he
          · split at he
            · simp at he
            · rcases mem_ins he with rfl | he
              · rcases ino_has h o.2.1 with h5 | h5
                · exact h5.2
                · exact absurd h5.1 (by simpa using hh)
              · exact h e (mem_drop (mem_drop he))
    · rw [if_neg h4] at he h0
      by_cases h5 : o.1 = 5
      · rw [if_pos h5] at he h0
        split at he
        · simp at he
        · split at he
          · simp at he
          · exact h e (mem_drop he)
      · rw [if_neg h5] at he
        simp at he
theorem ins_len (l : List Ent) (x : Ent) : (insM l x).length = l.length + 1 := by
  unfold insM
  rw [List.length_append, List.length_cons]
  have : (l.takeWhile (fun e => nlt e.1 x.1) ++ l.dropWhile (fun e => nlt e.1 x.1)).length = l.length := by rw [List.takeWhile_append_dropWhile]
  rw [List.length_append] at this
  omega
theorem step_len (l : List Ent) (o : DOp) (nx : Int) : (stepM l o nx).1.length ≤ l.length + 1 := by
  have h1 := drop_le l o.2.1
  have h2 := drop_le (dropM l o.2.1) o.2.2.1
  have h3 := ins_len l (o.2.1, nx)
  have h4 := ins_len (dropM (dropM l o.2.1) o.2.2.1) (o.2.2.1, inoM l o.2.1)
  unfold stepM
  repeat' split
  all_goals simp only [List.length_nil]
  all_goals omega
/-- What replay answers. -/
def RepP (w : World) (r : Option (List Ent)) (e : Ending) (w' : World) : Prop := Below w.heap.size w w' ∧ (r = none → e = .returned (.tuple #[.slice none 0 0, .bool false])) ∧ (∀ l, r = some l → ∃ v, e = .returned (.tuple #[v, .bool true]) ∧ w'.ownsRow w.heap.size 35 2 v l.length (l.flatMap encE))
theorem RepP.no {w w' : World} {r : Option (List Ent)} {e : Ending} (hb : Below w.heap.size w w') (ho : r = none) (he : e = .returned (.tuple #[.slice none 0 0, .bool false])) : RepP w r e w' := ⟨hb, fun _ => he, fun z hz => by rw [ho] at hz; cases hz⟩
theorem RepP.ok {w w' : World} {r : Option (List Ent)} {l : List Ent} {v : Value} {e : Ending} (hb : Below w.heap.size w w') (ho : r = some l) (he : e = .returned (.tuple #[v, .bool true])) (hv : w'.ownsRow w.heap.size 35 2 v l.length (l.flatMap encE)) : RepP w r e w' := ⟨hb, fun h => by (rw [ho] at h; cases h), fun y hy => by
  rw [ho] at hy
  injection hy with hy
  subst hy
  exact ⟨v, he, hv⟩⟩
set_option maxHeartbeats 8000000 in
set_option maxRecDepth 100000 in
theorem rreplay_any (v : Value) (d : Dsk) (q : Nat) (w : World) (h : IsD w v d) (hq : q ≤ d.ops.length) (hs : d.inodes.length ≤ 100000 ∧ d.dur.length ≤ 100000 ∧ d.ops.length ≤ 100000) (hnn : nnE d.dur) (hf : 0 ≤ firstM d) :
    Calls Try.prog 46 #[v, .int .i64 (q : Int)] w (RepP w (repM d.dur (firstM d) (d.ops.take q))) := by
  obtain ⟨a1, n1, c1, a2, n2, c2, a3, n3, c3, a4, n4, c4, rfl, h1, h2, h3, h4, ⟨k1, m1⟩, ⟨k2, m2⟩, ⟨k3, m3⟩, k4, m4⟩ := h.h
  unfold maxLen at m1 m2 m3 m4
  have HD := hide (And.intro h1.1 (And.intro h3.1 h4.1))
  have H3 := hide h3
  have H4 := hide h4
  have HNN := hide hnn
  obtain ⟨fm, hfm⟩ : ∃ fm, fm = firstM d := ⟨_, rfl⟩
  have HFM := hide (show fm = (n1 : Int) - ((creM d.ops : Nat) : Int) by rw [hfm]; unfold firstM; rw [h1.1])
  obtain ⟨tot, htot⟩ : ∃ tot, tot = repM d.dur fm (d.ops.take q) := ⟨_, rfl⟩
  rw [← hfm, ← htot]
  rw [← hfm] at hf
  have HT := hide htot
  have hn1 : n1 ≤ 100000 := by rw [h1.1]; exact hs.1
  have hn3 : n3 ≤ 100000 := by rw [h3.1]; exact hs.2.1
  have hn4 : n4 ≤ 100000 := by rw [h4.1]; exact hs.2.2
  have hq4 : q ≤ n4 := by rw [h4.1]; exact hq
  obtain ⟨i0, hi0, hz0, hz1, hz2⟩ := info_parts info_entry
  clear h h1 h2 h3 h4 hq hs hnn hfm htot m1 m2 m3 m4 k2
  go_enter Try.func46, Try.ntmps46
  obtain ⟨W0, hW0⟩ : ∃ W0, W0 = w.alloc (.cells #[.slice a1 n1 c1, .slice a2 n2 c2, .slice a3 n3 c3, .slice a4 n4 c4] 27) := ⟨_, rfl⟩
  have c0 : W0.cell? ⟨w.heap.size, 0, none⟩ = some (.slice a1 n1 c1) := by rw [hW0, cell_of_row _ _ 0 _ _ (0, 0) (heap_alloc_new w _)]; rfl
  have c3' : W0.cell? ⟨w.heap.size, 3, none⟩ = some (.slice a4 n4 c4) := by rw [hW0, cell_of_row _ _ 3 _ _ (0, 0) (heap_alloc_new w _)]; rfl
  have HB0 := hide (show Below w.heap.size w W0 by rw [hW0]; exact bl_alloc (bl_refl w) _)
  have hlt0 : w.heap.size < W0.heap.size := by rw [hW0]; simp
  have HC := hide (fun (wx : World) (hb : Below W0.heap.size W0 wx) => show wx.cell? ⟨w.heap.size, 0, none⟩ = some (.slice a1 n1 c1) ∧ wx.cell? ⟨w.heap.size, 3, none⟩ = some (.slice a4 n4 c4) from ⟨(hb.cell hlt0).trans c0, (hb.cell hlt0).trans c3'⟩)
  clear c0 c3'
  go_wp2_with (at_builtin; go_loud (refine wpList_append_rd _ rfl (.tmp 11) (.tmp 13) 24 rfl w.heap.size 35 i0 _ 2 24 Try.underlying24 hi0 hz0 hz1 hz2 rfl (by omega) _ 0 [] rfl (own_empty (by omega) (heap_alloc_eq (by simp) _)) a3 n3 c3 (d.dur.flatMap encE) rfl (by rw [flat_len encE_len, ← HD.out.2.1]) (Rd.below H3.out.2 (bl_alloc (bl_alloc (bl_refl w) _) _)) (encE_one _) (by simp only [maxLen]; omega) (by omega) (by simp; omega) ?_); intro v7 w7 ho7 hg7 hat7)
  rw [Nat.zero_add, List.nil_append] at ho7
  rw [← hW0] at hg7
  have hws : W0.heap.size = w.heap.size + 1 := by rw [hW0]; simp
  have HB7 := hide (show Below w.heap.size w w7 from bl_grown (bl_alloc HB0.out (.cells #[] 35)) hg7 (fun q' hq' => by have hq' : some (w.heap.size + 1) = some q' := hq'; injection hq' with hq'; omega))
  have HO7 := hide (show w7.ownsRow w.heap.size 35 2 v7 d.dur.length (d.dur.flatMap encE) by rw [← HD.out.2.1]; exact ho7)
  have HW7 := hide (show Below W0.heap.size W0 w7 from bl_grown (bl_alloc (bl_refl W0) (.cells #[] 35)) hg7 (fun q' hq' => by have hq' : some (w.heap.size + 1) = some q' := hq'; injection hq' with hq'; omega))
  have H47 := hide (H4.out.below HB7.out)
  have HCC := hide (fun (wx : World) (hC : CB w7.drew wx) => HC.out wx (HW7.out.trans (hC.below.mono HW7.out.size)))
  have hcr : creM d.ops ≤ n4 := by rw [HD.out.2.2]; exact List.countP_le_length
  obtain ⟨cr, hcre⟩ : ∃ cr, cr = creM d.ops := ⟨_, rfl⟩
  have HRC := hide (fun (wx : World) (hb : Below w7.heap.size w7 wx) => rcreates_any a4 n4 c4 d.ops wx (H47.out.below hb) (by omega))
  rw [← hcre] at HRC HFM hcr
  have hfme : (n1 : Int) - (cr : Int) = fm := HFM.out.symm
  have hfm9 : fm ≤ 100000 := by omega
  have ewf : IntKind.i64.wrap fm = fm := by rw [IntKind.wrap_i64]; omega
  clear hg7 hat7 ho7 hW0 hcre
  refine wp_region_K 8 (by kernel_rfl) (by kernel_rfl) (fun Q HQ => ?_)
  simp only [List.take_succ_cons, List.take_zero, List.map_cons, List.map_nil]
  repeat
    first | apply wpS_c rfl | apply wpS_gc rfl (guard_mk rfl rfl)
    focus
      intro ev wx hC hx
      (try simp [Op.operands, Call.operands, opndS, Slot.holds] at hx)
      obtain ⟨k0, k3⟩ := HCC.out wx hC
      go_simp
      try (first | exact rfl | exact ⟨Below.refl _ _, rfl⟩ | (go_at_call 44; refine (HRC.out _ hC.below).mono ?_; rintro e w' ⟨rfl, hb⟩; exact ⟨rfl, hb⟩))
      done
    dsimp only [setS, List.set]
  refine wpS_nil (HQ _ fun w8 hC8 => ?_)
  simp only [closeS, List.drop_succ_cons, List.drop_zero, List.drop_nil]
  have HB8 := hide (HB7.out.trans (hC8.below.mono HB7.out.size))
  have HW8 := hide (HW7.out.trans (hC8.below.mono HW7.out.size))
  have HO8 := hide (ownG_below HO7.out hC8.below)
  have HT8 := hide (show tot = repM d.dur fm ((d.ops.take q).drop 0) from HT.out)
  obtain ⟨e0, e3⟩ := HC.out w8 HW8.out
  have hqc : (q : Int) ≤ (c4 : Int) := by omega
  clear HQ hC8 ewf hfme hcr
  go_wp2_with fail
  go_loopw [6, 7, 27] (fun ov nv' kv wr => ∃ (i : Nat) (li : List Ent) (nx : Int), kv = .int .i64 (i : Int) ∧ nv' = .int .i64 nx ∧ i ≤ q ∧ 0 ≤ nx ∧ nx ≤ 100000 + (i : Int) ∧ Hid (nnE li) ∧ Hid (li.length ≤ 100000 + i) ∧ Hid (tot = repM li nx ((d.ops.take q).drop i)) ∧ Hid (wr.ownsRow w.heap.size 35 2 ov li.length (li.flatMap encE)) ∧ Hid (Below w.heap.size w wr)) (fun _ _ kv _ => q - (intOf kv).toNat)
  case atStart => exact ⟨0, d.dur, fm, rfl, rfl, by omega, hf, by omega, HNN, hide (by rw [← HD.out.2.1]; omega), HT8, HO8, HB8⟩
  case round =>
    obtain ⟨i, li, nx, rfl, rfl, hi, hx0, hx1, HNI, HLI, HTI, HOI, HBI⟩ := hrel
    by_cases hlt : i < q
    · obtain ⟨b, o, kd, s, t, dd, rfl, hbl, hx, g0, g1, g2, g3⟩ := (H4.out.below HBI.out).at_ (k := i) (by omega)
      have hiq : (i : Int) < (q : Int) := by omega
      have hop : (d.ops.take q)[i]? = some (kd, s, t, dd) := by rw [List.getElem?_take, if_pos hlt, hx]
      have hdr : (d.ops.take q).drop i = (kd, s, t, dd) :: (d.ops.take q).drop (i + 1) := by
        obtain ⟨p1, p2⟩ := List.getElem?_eq_some_iff.1 hop
        rw [← p2, List.drop_eq_getElem_cons p1]
      have hti := HTI.out
      rw [hdr, repM] at hti
      have HTN := hide hti
      obtain ⟨A6, c6, rfl, hc6, hm6, hr6⟩ := own_RE HOI.out rfl
      have HR6 := hide hr6
      have HBN := hide (bl_alloc HBI.out (.cells #[.int .i64 kd, .string (bstr s), .string (bstr t), .string (bstr dd)] 48))
      obtain ⟨ln, hln⟩ : ∃ ln, ln = li.length := ⟨_, rfl⟩
      have hln9 : ln ≤ 200000 := by rw [hln]; have := HLI.out; omega
      have HLN := hide hln
      obtain ⟨gb, hgb⟩ : ∃ gb, gb = wr.heap.size := ⟨_, rfl⟩
      rw [← hln] at HR6 hc6 ⊢
      have HSTP := hide (fun (wx : World) (hb : Below wr.heap.size wr wx) => rstep_any A6 ln c6 li (kd, s, t, dd) nx wx (HR6.out.below hb) (by omega) hc6 hm6 HNI.out)
      have hst0 := fun h0 => step_nn (o := (kd, s, t, dd)) HNI.out hx0 h0
      have hstl := step_len li (kd, s, t, dd) nx
      obtain ⟨⟨l2, er⟩, hst⟩ : ∃ r, r = stepM li (kd, s, t, dd) nx := ⟨_, rfl⟩
      rw [← hst] at HTN HSTP hst0 hstl
      have HN0 := hide hst0
      have HL2 := hide (show l2.length ≤ 100000 + (i + 1) by have := HLI.out; simp only [] at hstl; omega)
      unfold oV at HSTP
      simp only [] at HTN HSTP
      clear hx hop hdr hti hr6 hln hst hst0 hstl hbl hm6
      go_wp2_with fail
      obtain ⟨wa, hwa⟩ : ∃ wa, wa = wr.alloc (.cells #[.int .i64 kd, .string (bstr s), .string (bstr t), .string (bstr dd)] 48) := ⟨_, rfl⟩
      have z0 : wa.cell? ⟨wr.heap.size, 0, none⟩ = some (.int .i64 kd) := by rw [hwa, cell_of_row _ _ 0 _ _ (0, 0) (heap_alloc_new wr _)]; rfl
      have HZ := hide z0
      have hba : Below wr.heap.size wr wa := by rw [hwa]; exact bl_alloc (bl_refl wr) _
      rw [← hwa] at HBN ⊢
      clear hwa z0
      refine (HSTP.out wa hba).mono ?_
      rintro e w2 ⟨v2, rfl, ho2, hb2⟩
      have HB2 := hide (HBN.out.trans (hb2.mono HBN.out.size))
      have HO2 := hide (own_baseG ho2 HBN.out.size)
      have z2 : w2.cell? ⟨gb, 0, none⟩ = some (.int .i64 kd) := by rw [hgb]; exact (hb2.cell (lt_heap HZ.out)).trans HZ.out
      simp only [] at HO2 ⊢
      rw [← hgb]
      clear ho2 hb2 hba hgb g0 g1 g2 g3
      by_cases her : er = 0
      · subst her
        rw [if_pos rfl] at HTN
        have HNL := hide (HN0.out rfl)
        by_cases hk1 : kd = 1
        · rw [if_pos hk1] at HTN
          subst hk1
          go_wp2
          go_roundw
          case rel => exact ⟨i + 1, l2, nx + 1, by go_num, rfl, by omega, by omega, by omega, HNL, HL2, HTN, HO2, HB2⟩
          case measure => simp [intOf]; omega
        · rw [if_neg hk1] at HTN
          have hk1' : (kd == 1) = false := by simpa using hk1
          clear hk1
          go_wp2
          go_roundw
          case rel => exact ⟨i + 1, l2, nx, by go_num, rfl, by omega, by omega, by omega, HNL, HL2, HTN, HO2, HB2⟩
          case measure => simp [intOf]; omega
      · rw [if_neg her] at HTN
        obtain ⟨ei, hei⟩ : ∃ ei : Int, ei = (er : Int) := ⟨_, rfl⟩
        have h0i : (ei == 0) = false := by rw [beq_eq_false_iff_ne]; omega
        have h0j : (ei != 0) = true := by simp only [bne, h0i]; rfl
        rw [← hei]
        clear hei her
        go_wp2
        go_ret2
        exact .no HB2.out HTN.out rfl
    · obtain rfl : i = q := by omega
      have hiq : ¬ (i : Int) < (i : Int) := by omega
      have HR := hide (show tot = some li by rw [HTI.out, List.drop_of_length_le (by simp; omega)]; rfl)
      go_wp2
      go_ret2
      exact .ok HBI.out HR.out rfl HOI.out
end Go.Proofs.Ytjpmfiicbokdcaa
