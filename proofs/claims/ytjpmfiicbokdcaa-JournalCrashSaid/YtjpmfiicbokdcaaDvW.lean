/- The walk of the program's change. -/
import Derived.Test.YtjpmfiicbokdcaaDuW
namespace Go.Proofs.Ytjpmfiicbokdcaa
open Go.RowKit
set_option linter.unusedVariables false
set_option linter.unusedSimpArgs false
/-- change: the directory and the error. -/
def chgM (l : List Ent) (o : DOp) (ino : Int) : List Ent × Nat :=
  if o.1 = 1 then if vName o.2.1 = false then ([], 4) else if hasM l o.2.1 then ([], 5) else (insM l (o.2.1, ino), 0)
  else if o.1 = 4 then if hasM l o.2.1 = false then ([], 11) else if vName o.2.2.1 = false then ([], 4) else if o.2.2.1 = o.2.1 then ([], 1) else (insM (dropM (dropM l o.2.1) o.2.2.1) (o.2.2.1, inoM l o.2.1), 0)
  else if hasM l o.2.1 = false then ([], 11) else (dropM l o.2.1, 0)
/-- What a change answers. -/
def ChgP (w : World) (base : Nat) (v : Value) (r : List Ent × Nat) (e : Ending) (w' : World) : Prop := ∃ v', e = .returned (.tuple #[v', .int .i64 (r.2 : Int)]) ∧ w.grownBy w' v.ownBlock ∧ w'.ownsRow base 35 2 v' r.1.length (r.1.flatMap encE) ∧ (v'.ownBlock = v.ownBlock ∨ v'.ownBlock = none ∨ ∃ q, v'.ownBlock = some q ∧ w.heap.size ≤ q)
theorem ChgP.no {w w' : World} {base : Nat} {v : Value} {r : List Ent × Nat} {k : Nat} {e : Ending} (hr : r = ([], k)) (he : e = .returned (.tuple #[.slice none 0 0, .int .i64 (k : Int)])) (hb : Below w.heap.size w w') : ChgP w base v r e w' := by
  subst hr
  exact ⟨_, he, grown_of_below _ hb, ⟨rfl, .inl ⟨rfl, rfl⟩⟩, .inr (.inl rfl)⟩
theorem ChgP.ok {w w' : World} {base n' c' : Nat} {a' : Option Addr} {v : Value} {r : List Ent × Nat} {l : List Ent} {e : Ending} (hr : r = (l, 0)) (hn : n' = l.length) (he : e = .returned (.tuple #[.slice a' n' c', .int .i64 0])) (ho : w'.ownsRow base 35 2 (.slice a' n' c') n' (l.flatMap encE)) (hg : w.grownBy w' v.ownBlock) (hat : (Value.slice a' n' c').ownBlock = v.ownBlock ∨ ∃ q, (Value.slice a' n' c').ownBlock = some q ∧ w.heap.size ≤ q) : ChgP w base v r e w' := by
  subst hr hn
  exact ⟨_, he, hg, ho, hat.imp id .inr⟩
theorem insM_len (l : List Ent) (x : Ent) : (insM l x).length = l.length + 1 := ins_len l x
/-- A new block of one's own, a pointer to it. -/
def FreshPt (base : Nat) (C : List Value) (t : TypeId) : Value → World → Prop := fun v w => ∃ g, v = .pointer (some ⟨g, 0, none⟩) ∧ base ≤ g ∧ Blk w g C t
theorem stab_freshPt (base : Nat) (C : List Value) (t : TypeId) : Stab (.p (FreshPt base C t)) := fun u w w' hb ⟨g, h1, h2, h3⟩ => ⟨g, h1, h2, h3.below hb⟩
/-- The directory while its names are dropped one after the other. -/
def chL (l1 l2 l3 : List Ent) (L : Nat → Bool) : List Ent := if L 6 = true then l3 else if L 3 = true then l2 else l1
def ChG (w0 : World) (base g c : Nat) (l1 l2 l3 : List Ent) (L : Nat → Bool) (w' : World) : Prop :=
  (L 6 = true → L 3 = true) ∧ w0.grownBy w' (some g) ∧ w'.ownsRow base 35 2 (.slice (some ⟨g, 0, none⟩) (chL l1 l2 l3 L).length c) (chL l1 l2 l3 L).length ((chL l1 l2 l3 L).flatMap encE)
theorem ChG.call1 {w0 : World} {base g c : Nat} {l1 l3 : List Ent} {s : List UInt8} {L : Nat → Bool} {wx : World} (h : ChG w0 base g c l1 (dropM l1 s) l3 L wx) (hL : L 3 = false) (hn : l1.length ≤ 1000000) (hs : Srt l1) (n : Nat) (hl : n = l1.length) :
    Calls Try.prog 88 #[.slice (some ⟨g, 0, none⟩) n c, .string (bstr s)] wx fun e w' => ∃ v, e = .returned v ∧ ChG w0 base g c l1 (dropM l1 s) l3 (upL L 3) w' ∧ v = .slice (some ⟨g, 0, none⟩) (dropM l1 s).length c := by
  obtain ⟨h1, h2, h3⟩ := h
  have hL6 : L 6 = false := by
    cases h6 : L 6 with
    | false => rfl
    | true => rw [h1 h6] at hL; cases hL
  have e1 : chL l1 (dropM l1 s) l3 L = l1 := by unfold chL; rw [hL6, hL]; simp
  rw [e1] at h3
  subst hl
  refine (dropf_any base _ _ c l1 s wx h3 hn rfl hs).mono ?_
  rintro e w' ⟨rfl, ho, hg⟩
  have e2 : chL l1 (dropM l1 s) l3 (upL L 3) = dropM l1 s := by unfold chL upL; simp [hL6]
  exact ⟨_, rfl, ⟨fun h => by simp [upL, hL6] at h, h2.trans hg, by rw [e2]; exact ho⟩, rfl⟩
theorem ChG.call2 {w0 : World} {base g c : Nat} {l1 l2 : List Ent} {s : List UInt8} {L : Nat → Bool} {wx : World} (h : ChG w0 base g c l1 l2 (dropM l2 s) L wx) (hL : L 6 = false) (hL3 : L 3 = true) (hn : l2.length ≤ 1000000) (hs : Srt l2) :
    Calls Try.prog 88 #[.slice (some ⟨g, 0, none⟩) l2.length c, .string (bstr s)] wx fun e w' => ∃ v, e = .returned v ∧ ChG w0 base g c l1 l2 (dropM l2 s) (upL L 6) w' ∧ v = .slice (some ⟨g, 0, none⟩) (dropM l2 s).length c := by
  obtain ⟨h1, h2, h3⟩ := h
  have e1 : chL l1 l2 (dropM l2 s) L = l2 := by unfold chL; rw [hL, hL3]; simp
  rw [e1] at h3
  refine (dropf_any base _ _ c l2 s wx h3 hn rfl hs).mono ?_
  rintro e w' ⟨rfl, ho, hg⟩
  have e2 : chL l1 l2 (dropM l2 s) (upL L 6) = dropM l2 s := by unfold chL upL; simp
  exact ⟨_, rfl, ⟨fun _ => by simp [upL, hL3], h2.trans hg, by rw [e2]; exact ho⟩, rfl⟩
set_option maxHeartbeats 4000000 in
set_option maxRecDepth 100000 in
theorem change_any (base : Nat) (a : Option Addr) (n c : Nat) (l : List Ent) (o : DOp) (ino : Int) (w : World) (h : w.ownsRow base 35 2 (.slice a n c) n (l.flatMap encE)) (hn : n ≤ 900000) (hln : n = l.length) (hs : Srt l) (hb : base ≤ w.heap.size) :
    Calls Try.prog 67 #[.slice a n c, oV o, .int .i64 ino] w (ChgP w base (.slice a n c) (chgM l o ino)) := by
  obtain ⟨k, s, t, d⟩ := o
  unfold oV
  simp only []
  have HO := hide h
  have HS := hide hs
  have HLN := hide hln
  have HBB := hide hb
  obtain ⟨r, hr⟩ : ∃ r, r = chgM l (k, s, t, d) ino := ⟨_, rfl⟩
  rw [← hr]
  unfold chgM at hr
  simp only [] at hr
  have HR := hide hr
  obtain ⟨W0, hW0⟩ : ∃ W0, W0 = w.alloc (.cells #[.int .i64 k, .string (bstr s), .string (bstr t), .string (bstr d)] 48) := ⟨_, rfl⟩
  have B0 := hide (show Blk W0 w.heap.size [.int .i64 k, .string (bstr s), .string (bstr t), .string (bstr d)] 48 by rw [hW0]; exact Blk.new w _ _)
  have HB0 := hide (show Below w.heap.size w W0 by rw [hW0]; exact bl_alloc (bl_refl w) _)
  have HF := hide (fun (wx : World) (hb : Below w.heap.size w wx) => find_any a n c l s wx (own_RE2 (ownG_below h hb) hln).1 (by omega) hs)
  have HW0 := hide hW0
  obtain ⟨p, hp⟩ : ∃ p, p = posM l s := ⟨_, rfl⟩
  obtain ⟨hv, hhv⟩ : ∃ hv, hv = hasM l s := ⟨_, rfl⟩
  have HP := hide hp
  have HH := hide hhv
  rw [← hp, ← hhv] at HF
  rw [← hhv] at HR
  have hpl : p ≤ n := by rw [hp, hln]; exact posM_le l s
  clear h hs hln hr hW0 hp hhv
  go_enter Try.func67, Try.ntmps67
  go_wp2_with fail
  rw [← HW0.out]
  clear HW0
  refine (HF.out W0 HB0.out).mono ?_
  rintro e w1 ⟨rfl, hb1⟩
  have B1 := hide (B0.out.below hb1)
  have HB1 := hide (HB0.out.trans (hb1.mono HB0.out.size))
  clear hb1 B0 HB0
  have c0 : w1.cell? ⟨w.heap.size, 0, none⟩ = some _ := B1.out.cell rfl
  have c1 : w1.cell? ⟨w.heap.size, 1, none⟩ = some _ := B1.out.cell rfl
  have c2 : w1.cell? ⟨w.heap.size, 2, none⟩ = some _ := B1.out.cell rfl
  have l1 := B1.out.lt
  by_cases hk1 : k = 1
  · subst hk1
    rw [if_pos rfl] at HR
    go_wp2_with fail
    refine (vname_any s w1).mono ?_
    rintro e w' ⟨rfl, rfl⟩
    cases hv2 : vName s with
    | false =>
      rw [if_pos hv2] at HR
      clear hv2
      go_wp2
      go_ret2
      exact .no HR.out rfl HB1.out
    | true =>
      rw [if_neg (by rw [hv2]; decide)] at HR
      clear hv2
      cases hv with
      | true =>
        rw [if_pos rfl] at HR
        go_wp2
        go_ret2
        exact .no HR.out rfl HB1.out
      | false =>
        rw [if_neg (by decide)] at HR
        have HPU := hide (put_any base a n c l (s, ino) w1 (ownG_below HO.out HB1.out) (by omega) HLN.out HS.out (Nat.le_trans hb HB1.out.size))
        unfold eV at HPU
        go_wp2_with fail
        refine HPU.out.mono ?_
        rintro e w2 ⟨a', c', rfl, ho, hg, hat⟩
        have HO2 := hide ho
        have HG2 := hide hg
        have HAT := hide hat
        clear ho hg hat
        go_wp2
        go_ret2
        exact .ok HR.out (by rw [insM_len, ← HLN.out]) rfl HO2.out ((grown_of_below _ HB1.out).trans HG2.out) (HAT.out.imp id fun ⟨q, h1, h2⟩ => ⟨q, h1, Nat.le_trans HB1.out.size h2⟩)
  · have hk1' : (k == 1) = false := by simpa using hk1
    rw [if_neg hk1] at HR
    by_cases hk4 : k = 4
    · subst hk4
      rw [if_pos rfl] at HR
      clear hk1 hk1'
      cases hv with
      | false =>
        rw [if_pos rfl] at HR
        go_wp2
        go_ret2
        exact .no HR.out rfl HB1.out
      | true =>
        rw [if_neg (by decide)] at HR
        go_wp2_with fail
        refine (vname_any t w1).mono ?_
        rintro e w' ⟨rfl, rfl⟩
        cases hv2 : vName t with
        | false =>
          rw [if_pos hv2] at HR
          clear hv2
          go_wp2
          go_ret2
          exact .no HR.out rfl HB1.out
        | true =>
          rw [if_neg (by rw [hv2]; decide)] at HR
          clear hv2
          by_cases hts : t = s
          · rw [if_pos hts] at HR
            subst hts
            go_wp2
            go_ret2
            exact .no HR.out rfl HB1.out
          · rw [if_neg hts] at HR
            have ht1 : (t == s) = false := by simpa using hts
            clear hts
            obtain ⟨x, hx⟩ := has_at HS.out HH.out.symm
            rw [← HP.out] at hx
            have hpn : p < n := by rw [HLN.out]; exact (List.getElem?_eq_some_iff.1 hx).1
            have hix : inoM l s = x := by
              have := HP.out
              subst this
              exact ino_at HS.out hx
            rw [hix] at HR
            obtain ⟨g, cur, rfl, hbg, -⟩ := ownG_inv HO.out (by omega)
            have ho1 := ownG_below HO.out HB1.out
            have x0 := (ownG_at ho1 (flat_get encE_len _ p 1 _ _ hx rfl)).1
            have hpi : (p : Int) < (n : Int) := by omega
            have hgl := (ownG_lt ho1 (k := g) rfl).2
            have HG0 := hide (show g < w.heap.size from (ownG_lt HO.out (k := g) rfl).2)
            clear hx hix hpl ho1
            go_wp2_with fail
            have HCC := hide (fun (wx : World) (hC : CB w1.drew wx) => show wx.cell? ⟨w.heap.size, 2, none⟩ = some (.string (bstr t)) ∧ wx.cell? ⟨g, p * 2 + 1, none⟩ = some (.int .i64 x) from ⟨(B1.out.below hC.below).cell rfl, hC.cell x0⟩)
            refine wp_region_K 9 (by kernel_rfl) (by kernel_rfl) (fun Q HQ => ?_)
            simp only [List.take_succ_cons, List.take_zero, List.map_cons, List.map_nil]
            repeat
              first | apply wpS_c rfl | apply wpS_gc rfl (guard_mk rfl rfl)
              focus
                intro ev wx hC hx
                (try simp [Op.operands, Call.operands, opndS, Slot.holds] at hx)
                obtain ⟨k0, k1⟩ := HCC.out wx hC
                go_simp
                try (first | exact rfl | exact ⟨Below.refl _ _, rfl⟩)
                done
              dsimp only [setS, List.set]
            refine wpS_p (R := FreshPt w1.heap.size [.string ⟨#[]⟩, .int .i64 0] 35) rfl (stab_freshPt _ _ _) ?_ ?_
            focus
              intro ev wx hC hx
              (try simp [Op.operands, Call.operands, opndS, Slot.holds] at hx)
              go_simp
              exact ⟨bl_alloc (bl_refl _) _, _, rfl, hC.below.size, Blk.new wx _ _⟩
            dsimp only [setS, List.set]
            refine wpS_nil (HQ _ fun w4 hC4 => ?_)
            simp only [closeS, List.drop_succ_cons, List.drop_zero, List.drop_nil]
            rintro v10 ⟨g10, rfl, hge, hblk⟩
            have hb4 := hC4.below
            have D0 := hide (B1.out.below hb4)
            have DO := hide (ownG_below (ownG_below HO.out HB1.out) hb4)
            have DX := hide hblk
            have HB4 := hide (HB1.out.trans (hb4.mono HB1.out.size))
            have hg10 : w.heap.size < g10 := by omega
            clear hb4 hC4 HQ HCC x0 hblk hge
            have u0 : w4.cell? ⟨g10, 0, none⟩ = some _ := DX.out.cell rfl
            have u1 : w4.cell? ⟨g10, 1, none⟩ = some _ := DX.out.cell rfl
            have uf := DX.out.fr
            have ul := DX.out.lt
            obtain ⟨W5, hW5⟩ : ∃ W5, W5 = (w4.setCell ⟨g10, 0, none⟩ (.string (bstr t))).setCell ⟨g10, 1, none⟩ (.int .i64 x) := ⟨_, rfl⟩
            have E0 := hide (show Blk W5 w.heap.size _ _ by rw [hW5]; exact (D0.out.setne (by omega) _ _).setne (by omega) _ _)
            have EX := hide (show Blk W5 g10 [.string (bstr t), .int .i64 x] _ by rw [hW5]; exact (DX.out.set 0 _).set 1 _)
            have HG1 := HG0.out
            have EO := hide (show W5.ownsRow base 35 2 (.slice (some ⟨g, 0, none⟩) n c) n _ by rw [hW5]; exact ownG_setne (ownG_setne DO.out (by intro e; have e : some g = some g10 := e; injection e with e; omega) _ _) (by intro e; have e : some g = some g10 := e; injection e with e; omega) _ _)
            have HB5 := hide (show Below w.heap.size w W5 by rw [hW5]; exact bl_setG (bl_setG HB4.out (by omega) _ _) (by omega) _ _)
            have HW5 := hide (show (w4.setCell ⟨g10, 0, none⟩ (.string (bstr t))).setCell ⟨g10, 1, none⟩ (.int .i64 x) = W5 from hW5.symm)
            clear hW5 D0 DX DO HB4
            go_wp2_with fail
            rw [HW5.out]
            clear HW5 u0 u1 uf ul c0 c1 c2 l1 hgl
            have hstart : ChG W5 base g c l (dropM l s) (dropM (dropM l s) t) (fun _ => false) W5.drew := ⟨fun h => by simp at h, ⟨rfl, rfl, rfl, Nat.le_refl _, fun _ _ _ => rfl⟩, by
              have e1 : chL l (dropM l s) (dropM (dropM l s) t) (fun _ => false) = l := rfl
              rw [e1, ← HLN.out]; exact EO.out⟩
            have HE := hide (fun (wx : World) (L : Nat → Bool) (hG : ChG W5 base g c l (dropM l s) (dropM (dropM l s) t) L wx) => show wx.cell? ⟨w.heap.size, 1, none⟩ = some (.string (bstr s)) ∧ wx.cell? ⟨w.heap.size, 2, none⟩ = some (.string (bstr t)) ∧ wx.cell? ⟨g10, 0, none⟩ = some (.string (bstr t)) ∧ wx.cell? ⟨g10, 1, none⟩ = some (.int .i64 x) from
              ⟨(E0.out.grown hG.2.1 (by intro e; injection e with e; omega)).cell rfl, (E0.out.grown hG.2.1 (by intro e; injection e with e; omega)).cell rfl, (EX.out.grown hG.2.1 (by intro e; injection e with e; omega)).cell rfl, (EX.out.grown hG.2.1 (by intro e; injection e with e; omega)).cell rfl⟩)
            refine wp_region_G 8 (ChG W5 base g c l (dropM l s) (dropM (dropM l s) t)) (by kernel_rfl) (by kernel_rfl) hstart (fun Q HQ => ?_)
            simp only [List.take_succ_cons, List.take_zero, List.map_cons, List.map_nil]
            repeat
              first | apply wpG_c rfl | apply wpG_gc rfl (guard_mk rfl rfl)
              focus
                intro L ev wx hG hL hM hx
                (try simp [Op.operands, Call.operands, opndS, Slot.holds] at hx)
                obtain ⟨k0, k1, k2, k3⟩ := HE.out wx L hG
                go_simp
                try (first | exact ⟨hG, rfl⟩)
                done
              dsimp only [setS, List.set]
            apply wpG_c rfl
            focus
              intro L ev wx hG hL hM hx
              (try simp [Op.operands, Call.operands, opndS, Slot.holds] at hx)
              go_simp
              exact hG.call1 hL (by rw [← HLN.out]; omega) HS.out n HLN.out
            dsimp only [setS, List.set]
            repeat
              first | apply wpG_c rfl | apply wpG_gc rfl (guard_mk rfl rfl)
              focus
                intro L ev wx hG hL hM hx
                (try simp [Op.operands, Call.operands, opndS, Slot.holds] at hx)
                obtain ⟨k0, k1, k2, k3⟩ := HE.out wx L hG
                go_simp
                try (first | exact ⟨hG, rfl⟩)
                done
              dsimp only [setS, List.set]
            apply wpG_c rfl
            focus
              intro L ev wx hG hL hM hx
              (try simp [Op.operands, Call.operands, opndS, Slot.holds] at hx)
              go_simp
              exact hG.call2 hL (hM 3 (by omega) (by kernel_rfl)) (by have := drop_le l s; have := HLN.out; omega) (srt_drop HS.out s)
            dsimp only [setS, List.set]
            repeat
              first | apply wpG_c rfl | apply wpG_gc rfl (guard_mk rfl rfl)
              focus
                intro L ev wx hG hL hM hx
                (try simp [Op.operands, Call.operands, opndS, Slot.holds] at hx)
                obtain ⟨k0, k1, k2, k3⟩ := HE.out wx L hG
                go_simp
                try (first | exact ⟨hG, rfl⟩)
                done
              dsimp only [setS, List.set]
            refine wpG_nil (HQ _ fun w6 hG6 => ?_)
            simp only [closeS, List.drop_succ_cons, List.drop_zero, List.drop_nil]
            obtain ⟨-, hg6, ho6⟩ := hG6
            have e6 : chL l (dropM l s) (dropM (dropM l s) t) (fun i => decide (i < 8)) = dropM (dropM l s) t := rfl
            rw [e6] at ho6
            have hb6 : base ≤ w6.heap.size := Nat.le_trans HBB.out (Nat.le_trans HB5.out.size hg6.size)
            have HPU := hide (put_any base _ _ c (dropM (dropM l s) t) (t, x) w6 ho6 (by have := drop_le l s; have := drop_le (dropM l s) t; have := HLN.out; omega) rfl (srt_drop (srt_drop HS.out s) t) hb6)
            unfold eV at HPU
            have HG6 := hide ((grown_of_below (some g) HB5.out).trans hg6)
            have hs6 := Nat.le_trans HB5.out.size hg6.size
            clear hg6 ho6 HQ hstart HE e6
            go_wp2_with fail
            refine HPU.out.mono ?_
            rintro e w7 ⟨a', c', rfl, ho, hg, hat⟩
            have HO7 := hide ho
            have HG7 := hide hg
            have HAT := hide hat
            clear ho hg hat
            go_wp2
            go_ret2
            exact .ok HR.out (by rw [insM_len]) rfl HO7.out (HG6.out.trans HG7.out) (HAT.out.imp id fun ⟨q, h1, h2⟩ => ⟨q, h1, Nat.le_trans hs6 h2⟩)
    · have hk4' : (k == 4) = false := by simpa using hk4
      rw [if_neg hk4] at HR
      clear hk1 hk4
      cases hv with
      | false =>
        rw [if_pos rfl] at HR
        go_wp2
        go_ret2
        exact .no HR.out rfl HB1.out
      | true =>
        rw [if_neg (by decide)] at HR
        have HDR := hide (dropf_any base a n c l s w1 (ownG_below HO.out HB1.out) (by omega) HLN.out HS.out)
        go_wp2_with fail
        refine HDR.out.mono ?_
        rintro e w2 ⟨rfl, ho, hg⟩
        have HO2 := hide ho
        have HG2 := hide hg
        clear ho hg
        go_wp2
        go_ret2
        exact .ok HR.out rfl rfl HO2.out ((grown_of_below _ HB1.out).trans (by have := HG2.out; cases a <;> exact this)) (.inl (by cases a <;> rfl))
end Go.Proofs.Ytjpmfiicbokdcaa
