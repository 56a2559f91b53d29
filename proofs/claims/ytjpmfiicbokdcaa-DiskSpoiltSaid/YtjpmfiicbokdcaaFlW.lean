/- The walk of DiskSpoilt. -/
import Derived.Test.YtjpmfiicbokdcaaFdW
namespace Go.Proofs.Ytjpmfiicbokdcaa
open Go.RowKit
set_option linter.unusedVariables false
set_option linter.unusedSimpArgs false
theorem rd_boxed {w w' : World} {a : Option Addr} {xs cs : List Value} {D : Nat} {T : TypeId} (h : Rd w a xs) (hx : ∀ x ∈ xs, isSl x = false) (hb : Blk w D cs T) (hc : AllSl cs) (hg : w.grownBy w' (some D)) : Rd w' a xs := by
  rcases h with rfl | ⟨b, o, rfl, hlt, hcell⟩
  · exact .inl rfl
  · refine .inr ⟨b, o, rfl, Nat.lt_of_lt_of_le hlt hg.size, fun j u hj => ?_⟩
    have h1 := hcell j u hj
    have hne : b ≠ D := by
      rintro rfl
      rw [cell_of_row w b (o + j) _ _ _ hb] at h1
      have h2 : cs[o + j]? = some u := by simpa using h1
      have h3 := hc u (List.mem_of_getElem? h2)
      rw [hx u (List.mem_of_getElem? hj)] at h3
      cases h3
    exact (World.cell?_of_block (hg.block b hlt (fun e => hne (by injection e)))).trans h1
theorem IsD.boxed {w w' : World} {v : Value} {d : Dsk} {D : Nat} {cs : List Value} {T : TypeId} (h : IsD w v d) (hb : Blk w D cs T) (hc : AllSl cs) (hg : w.grownBy w' (some D)) : IsD w' v d := by
  obtain ⟨a1, n1, c1, a2, n2, c2, a3, n3, c3, a4, n4, c4, rfl, h1, h2, h3, h4, h5⟩ := h.h
  exact ⟨a1, n1, c1, a2, n2, c2, a3, n3, c3, a4, n4, c4, rfl, ⟨h1.1, rd_boxed h1.2 (encE_noSl _) hb hc hg⟩, ⟨h2.1, rd_boxed h2.2 (encE_noSl _) hb hc hg⟩, ⟨h3.1, rd_boxed h3.2 (encE_noSl _) hb hc hg⟩, ⟨h4.1, rd_boxed h4.2 (encO_noSl _) hb hc hg⟩, h5⟩
section
variable {w : World} {a1 a2 a3 a4 : Option Addr} {n1 c1 n2 c2 n3 c3 n4 c4 : Nat} {d : Dsk}
theorem isD_open (h : IsD w (.agg #[.slice a1 n1 c1, .slice a2 n2 c2, .slice a3 n3 c3, .slice a4 n4 c4]) d) : RE w a1 n1 d.inodes ∧ RE w a2 n2 d.dir ∧ RE w a3 n3 d.dur ∧ RO w a4 n4 d.ops ∧ (n1 ≤ c1 ∧ c1 ≤ maxLen) ∧ (n2 ≤ c2 ∧ c2 ≤ maxLen) ∧ (n3 ≤ c3 ∧ c3 ≤ maxLen) ∧ (n4 ≤ c4 ∧ c4 ≤ maxLen) := by
  obtain ⟨x1, y1, z1, x2, y2, z2, x3, y3, z3, x4, y4, z4, he, h1⟩ := h.h
  simp at he
  obtain ⟨⟨rfl, rfl, rfl⟩, ⟨rfl, rfl, rfl⟩, ⟨rfl, rfl, rfl⟩, rfl, rfl, rfl⟩ := he
  exact h1
theorem isD_mk (h1 : RE w a1 n1 d.inodes) (h2 : RE w a2 n2 d.dir) (h3 : RE w a3 n3 d.dur) (h4 : RO w a4 n4 d.ops) (k1 : n1 ≤ c1 ∧ c1 ≤ maxLen) (k2 : n2 ≤ c2 ∧ c2 ≤ maxLen) (k3 : n3 ≤ c3 ∧ c3 ≤ maxLen) (k4 : n4 ≤ c4 ∧ c4 ≤ maxLen) : IsD w (.agg #[.slice a1 n1 c1, .slice a2 n2 c2, .slice a3 n3 c3, .slice a4 n4 c4]) d :=
  ⟨_, _, _, _, _, _, _, _, _, _, _, _, rfl, h1, h2, h3, h4, k1, k2, k3, k4⟩
end
theorem Rd.dropN {w : World} {b o : Nat} {xs : List Value} (h : Rd w (some ⟨b, o, none⟩) xs) (j : Nat) : Rd w (some ⟨b, o + j, none⟩) (xs.drop j) := by
  rcases h with rfl | ⟨b', o', he, hlt, hc⟩
  · exact .inl (by simp)
  · injection he with he
    injection he with h1 h2
    subst h1; subst h2
    refine .inr ⟨_, _, rfl, hlt, fun k v hv => ?_⟩
    rw [List.getElem?_drop] at hv
    have := hc _ _ hv
    rwa [← Nat.add_assoc] at this
theorem RE.dropN {w : World} {b o n : Nat} {l : List Ent} (h : RE w (some ⟨b, o, none⟩) n l) (k : Nat) : RE w (some ⟨b, o + k * 2, none⟩) (n - k) (l.drop k) :=
  ⟨by rw [List.length_drop, h.1], by rw [← flat_drop encE_len]; exact Rd.dropN h.2 (k * 2)⟩
theorem bl_ofD {w wa w' : World} {D : Nat} (h : Below w.heap.size w wa) (hD : w.heap.size ≤ D) (hg : wa.grownBy w' (some D)) : Below w.heap.size w w' := bl_grown h hg (fun k e => by injection e with e; omega)
theorem mod_nat {x : Int} {n : Nat} (h : 0 < n) : ∃ m : Nat, modZ x (n : Int) = (m : Int) ∧ m < n := by
  obtain ⟨h1, h2⟩ := modZ_range x n (by omega)
  exact ⟨(modZ x n).toNat, by omega, by omega⟩
namespace diskSpoilt
set_option maxHeartbeats 8000000 in
set_option maxRecDepth 100000 in
theorem walk (a : Option Addr) (len cap : Nat) (z : List Int) (how at_ : Int) (w : World) (w0 : IsRow .i64 w a len cap z) (hhow : (Lit.int .i64 how).wf = true) (hat : (Lit.int .i64 at_).wf = true) :
    Calls Try.prog 3 #[.slice a len cap, .int .i64 how, .int .i64 at_] w fun e w' => e = .returned (.bool true) ∧ Below w.heap.size w w' := by
  obtain ⟨zs, hl, hr, hc, hm, _, _⟩ := w0.ints
  have HL := hide hl.symm
  have HR := hide hr
  clear hl hr w0
  obtain ⟨i0, hi0, hz0, hz1, hz2⟩ := info_parts info_inode
  obtain ⟨j0, hj0, hy0, hy1, hy2⟩ := info_parts info_entry
  go_enter Try.func3, Try.ntmps3
  go_wp2_with fail
  refine (tnew_any a len cap zs w HL.out hc hm HR.out).mono ?_
  rintro e w1 ⟨rfl, ht1, hb1⟩
  have HT1 := hide ht1
  have HB1 := hide hb1
  clear ht1 hb1
  go_wp2_with fail
  refine (build_any w.heap.size 10 10 w1 rfl (by decide) HT1.out).mono ?_
  rintro e w2 ⟨u, d, rfl, hu, hgd, hg2⟩
  obtain ⟨a1, n1, c1, a2, n2, c2, a3, n3, c3, a4, n4, c4, rfl⟩ := hu.four
  obtain ⟨wa, hwa⟩ : ∃ wa, wa = w2.alloc (.cells [.slice a1 n1 c1, .slice a2 n2 c2, .slice a3 n3 c3, .slice a4 n4 c4].toArray 27) := ⟨_, rfl⟩
  obtain ⟨D, hD⟩ : ∃ D, D = w2.heap.size := ⟨_, rfl⟩
  have DB := hide (show Blk wa D [.slice a1 n1 c1, .slice a2 n2 c2, .slice a3 n3 c3, .slice a4 n4 c4] 27 by rw [hwa, hD]; exact Blk.new w2 _ _)
  have DI := hide (show IsD wa _ d by rw [hwa]; exact hu.below (bl_alloc (bl_refl w2) _))
  have LB := hide (show Below w.heap.size w wa by rw [hwa]; exact bl_alloc (bl_tape HB1.out hg2 (Nat.le_refl _)) _)
  have hwD : w.heap.size ≤ D := by rw [hD]; exact (bl_tape HB1.out hg2 (Nat.le_refl _)).size
  have HGD := hide hgd
  have HDD := hide hD.symm
  have HWA := hide hwa.symm
  clear hu hgd hg2 hwa hD HT1 HB1
  have hn1 : n1 ≤ 10 := by rw [(isD_open DI.out).1.1]; exact HGD.out.2.1
  have hn2 : n2 ≤ 10 := by rw [(isD_open DI.out).2.1.1]; exact HGD.out.2.2.1
  have hn3 : n3 ≤ 10 := by rw [(isD_open DI.out).2.2.1.1]; exact HGD.out.2.2.2.1
  have hn4 : n4 ≤ 10 := by rw [(isD_open DI.out).2.2.2.1.1]; exact HGD.out.2.2.2.2
  have hk3 := (isD_open DI.out).2.2.2.2.2.2.1
  have hk4 := (isD_open DI.out).2.2.2.2.2.2.2
  unfold maxLen at hk3 hk4
  have HK := hide (And.intro hk3 hk4)
  clear hk3 hk4
  go_wp2_with fail
  rw [HWA.out, HDD.out]
  clear HWA HDD
  obtain ⟨k, hkm, hk6⟩ := mod_nat (x := how) (n := 6) (by decide)
  have hmk := mod_any how 6 wa (by decide)
  rw [show modZ how 6 = (k : Int) from hkm] at hmk
  refine hmk.mono ?_
  rintro e w' ⟨rfl, rfl⟩
  clear hkm hmk
  have xy0 : wa.cell? ⟨D, 0, none⟩ = some _ := DB.out.cell rfl
  have xy1 : wa.cell? ⟨D, 1, none⟩ = some _ := DB.out.cell rfl
  have xy2 : wa.cell? ⟨D, 2, none⟩ = some _ := DB.out.cell rfl
  have xy3 : wa.cell? ⟨D, 3, none⟩ = some _ := DB.out.cell rfl
  have xl := DB.out.lt
  have xf := DB.out.fr
  have HSD := hide (show szD d from HGD.out.2.szD (by decide))
  have hk : k = 0 ∨ k = 1 ∨ k = 2 ∨ k = 3 ∨ k = 4 ∨ k = 5 := by omega
  clear hk6
  rcases hk with rfl | rfl | rfl | rfl | rfl | rfl
  · by_cases hp : 0 < n1
    · have hp' : (0 : Int) < (n1 : Int) := by omega
      obtain ⟨m, hm0, hmn⟩ := mod_nat (x := at_) hp
      have hmd := mod_any at_ n1 wa (by omega)
      rw [hm0] at hmd
      have HMD := hide hmd
      have HI := hide (isD_open DI.out).1
      clear hm0 hmd
      go_wp2_with fail
      refine HMD.out.mono ?_
      rintro e w' ⟨rfl, rfl⟩
      clear HMD xy0 xy1 xy2 xy3 xl xf
      have xy0 : wa.cell? ⟨D, 0, none⟩ = some _ := DB.out.cell rfl
      have xy1 : wa.cell? ⟨D, 1, none⟩ = some _ := DB.out.cell rfl
      have xy2 : wa.cell? ⟨D, 2, none⟩ = some _ := DB.out.cell rfl
      have xy3 : wa.cell? ⟨D, 3, none⟩ = some _ := DB.out.cell rfl
      have xl := DB.out.lt
      clear xy1 xy2 xy3
      go_wp2_with (at_builtin; go_loud (refine wpList_append_rd _ rfl (.tmp 29) (.tmp 31) 23 rfl wa.heap.size 33 i0 _ 2 24 Try.underlying23 hi0 hz0 hz1 hz2 rfl (by omega) _ 0 [] rfl (own_empty (Nat.le_refl _) (heap_alloc_eq rfl _)) a1 n1 c1 (d.inodes.flatMap encE) rfl (by rw [flat_len encE_len, ← HI.out.1]) (Rd.below HI.out.2 (bl_alloc (bl_refl wa) _)) (encE_one _) (by simp only [maxLen]; omega) (by omega) (by simp) ?_))
      intro v7 w7 ho7 hg7 hat7
      obtain ⟨A7, c7, e7, hc7, hr7⟩ := ownG_form ho7
      obtain rfl := e7
      obtain ⟨q, cur, rfl, hq, -⟩ := ownG_inv ho7 hp
      have HO7 := hide ho7
      have D7 := hide ((DB.out.alloc _).grown hg7 (fun e => by have h9 := DB.out.lt; simp [Value.ownBlock] at e; omega))
      have HG7 := hide hg7
      have xy0 : w7.cell? ⟨D, 0, none⟩ = some _ := D7.out.cell rfl
      have xy1 : w7.cell? ⟨D, 1, none⟩ = some _ := D7.out.cell rfl
      have xl := D7.out.lt
      have xf := D7.out.fr
      clear ho7 hg7 hat7 hr7
      go_wp2_with fail
      have HXD := hide (fun (wx : World) (hC : CB (w7.setCell ⟨D, 0, none⟩ (.slice (some ⟨q, 0, none⟩) n1 c7)).drew wx) => show wx.cell? ⟨D, 0, none⟩ = some (.slice (some ⟨q, 0, none⟩) n1 c7) from ((D7.out.set 0 (.slice (some ⟨q, 0, none⟩) n1 c7)).below hC.below).cell rfl)
      have hmn' : (m : Int) < (n1 : Int) := by omega
      refine wp_region_K 9 (by kernel_rfl) (by kernel_rfl) (fun Q HQ => ?_)
      simp only [List.take_succ_cons, List.take_zero, List.map_cons, List.map_nil]
      repeat
        first | apply wpS_c rfl | apply wpS_gc rfl (guard_mk rfl rfl)
        focus
          intro ev wx hC hx
          (try simp [Op.operands, Call.operands, opndS, Slot.holds] at hx)
          have k3 := HXD.out wx hC
          go_simp
          try (first | exact rfl | exact ⟨Below.refl _ _, rfl⟩)
          done
        dsimp only [setS, List.set]
      refine wpS_p (R := fun v _ => ∃ r : Int, v = .int .i64 r) rfl (fun _ _ _ _ h => h) ?_ ?_
      focus
        intro ev wx hC hx
        (try simp [Op.operands, Call.operands, opndS, Slot.holds] at hx)
        go_simp
        refine (mod_any _ 9 wx (by decide)).mono ?_
        rintro e w' ⟨rfl, rfl⟩
        exact ⟨_, rfl, bl_refl _, _, rfl⟩
      dsimp only [setS, List.set]
      refine wpS_p (R := fun v _ => ∃ r : Int, v = .int .i64 r) rfl (fun _ _ _ _ h => h) ?_ ?_
      focus
        intro ev wx hC hx
        (try simp [Op.operands, Call.operands, opndS, Slot.holds] at hx)
        obtain ⟨⟨r, hr⟩, hx1⟩ := hx
        go_simp
        exact bl_refl _
      dsimp only [setS, List.set]
      repeat
        first | apply wpS_c rfl | apply wpS_gc rfl (guard_mk rfl rfl)
        focus
          intro ev wx hC hx
          (try simp [Op.operands, Call.operands, opndS, Slot.holds] at hx)
          have k3 := HXD.out wx hC
          go_simp
          try (first | exact rfl | exact ⟨Below.refl _ _, rfl⟩)
          done
        dsimp only [setS, List.set]
      refine wpS_nil (HQ _ fun w9 hC9 => ?_)
      simp only [closeS, List.drop_succ_cons, List.drop_zero]
      rintro v39 - v40 ⟨V, rfl⟩
      have hb9 := hC9.below
      have hDw := DB.out.lt
      have hDq : D ≠ q := by omega
      obtain ⟨x, hx⟩ : ∃ x, d.inodes[m]? = some x := ⟨_, List.getElem?_eq_getElem (by rw [← HI.out.1]; exact hmn)⟩
      have HO9 := hide (ownG_below (ownG_setlt HO7.out hDw 0 (.slice (some ⟨q, 0, none⟩) n1 c7)) hb9)
      have D9 := hide ((D7.out.set 0 (.slice (some ⟨q, 0, none⟩) n1 c7)).below hb9)
      obtain ⟨y1, fy1⟩ := ownG_at HO9.out (flat_get encE_len _ m 1 _ _ hx rfl)
      obtain ⟨w10, hw10⟩ : ∃ w10, w10 = w9.setCell ⟨q, m * 2 + 1, none⟩ (.int .i64 V) := ⟨_, rfl⟩
      have hg10 : wa.grownBy w10 (some D) := by
        rw [hw10]
        exact gr_setG (gr_below (gr_setR (grown_of_below (some D) (bl_grown (bl_alloc (bl_refl wa) _) HG7.out (fun k hk => by simp [Value.ownBlock] at hk; omega))) _ _) hb9) hq _ _
      have HO10 := hide (show w10.ownsRow wa.heap.size 33 2 (.slice (some ⟨q, 0, none⟩) n1 c7) n1 ((d.inodes.set m (x.1, V)).flatMap encE) by
        rw [hw10, ← flat_set1 _ m x V hx]
        exact ownG_set HO9.out (m * 2 + 1) (.int .i64 V))
      have D10 := hide (show Blk w10 D [.slice (some ⟨q, 0, none⟩) n1 c7, .slice a2 n2 c2, .slice a3 n3 c3, .slice a4 n4 c4] 27 by rw [hw10]; exact D9.out.setne hDq _ _)
      have I10 := hide (show IsD w10 (.agg #[.slice (some ⟨q, 0, none⟩) n1 c7, .slice a2 n2 c2, .slice a3 n3 c3, .slice a4 n4 c4]) ⟨d.inodes.set m (x.1, V), d.dir, d.dur, d.ops⟩ by
        obtain ⟨h1, h2, h3, h4, k1, k2, k3, k4⟩ := isD_open (DI.out.boxed DB.out (allSl4 _ _ _ _ _ _ _ _ _ _ _ _) hg10)
        obtain ⟨r1, r2⟩ := own_RE2 HO10.out (by rw [List.length_set]; exact HI.out.1)
        exact isD_mk r1 h2 h3 h4 r2 k2 k3 k4)
      have L10 := hide (bl_ofD LB.out hwD hg10)
      have S10 := hide (show szD ⟨d.inodes.set m (x.1, V), d.dir, d.dur, d.ops⟩ from ⟨by rw [List.length_set]; exact HSD.out.1, HSD.out.2.1, HSD.out.2.2.1, HSD.out.2.2.2⟩)
      have HW10 := hide hw10.symm
      clear hw10 hg10 hb9 hC9 HQ HXD xy0 xy1 xl xf hx hDw
      go_wp2_with fail
      rw [HW10.out]
      clear HW10 y1 fy1
      have HEQ := hide (fun (wx : World) (hb : Below (w10).heap.size w10 wx) => And.intro (validate_any _ _ wx (I10.out.below hb) S10.out) (rvalidate_any _ _ wx (I10.out.below hb) S10.out))
      obtain ⟨er, her⟩ : ∃ er, er = errM ⟨d.inodes.set m (x.1, V), d.dir, d.dur, d.ops⟩ := ⟨_, rfl⟩
      rw [← her] at HEQ
      have HXC := hide (fun (wx : World) (hC : CB (w10).drew wx) => show wx.cell? ⟨D, 0, none⟩ = some _ ∧ wx.cell? ⟨D, 1, none⟩ = some _ ∧ wx.cell? ⟨D, 2, none⟩ = some _ ∧ wx.cell? ⟨D, 3, none⟩ = some _ from ⟨(D10.out.below hC.below).cell rfl, (D10.out.below hC.below).cell rfl, (D10.out.below hC.below).cell rfl, (D10.out.below hC.below).cell rfl⟩)
      clear her
      refine wp_region_K 4 (by kernel_rfl) (by kernel_rfl) (fun Q HQ => ?_)
      simp only [List.take_succ_cons, List.take_zero, List.map_cons, List.map_nil]
      repeat
        first | apply wpS_c rfl | apply wpS_gc rfl (guard_mk rfl rfl)
        focus
          intro ev wx hC hx
          (try simp [Op.operands, Call.operands, opndS, Slot.holds] at hx)
          obtain ⟨k0, k1, k2, k3⟩ := HXC.out wx hC
          go_simp
          try (first | exact rfl | exact ⟨Below.refl _ _, rfl⟩ | ((refine (HEQ.out wx hC.below).1.mono ?_; rintro e w' ⟨rfl, hb⟩; exact ⟨rfl, hb⟩)) | ((refine (HEQ.out wx hC.below).2.mono ?_; rintro e w' ⟨rfl, hb⟩; exact ⟨rfl, hb⟩)))
          done
        dsimp only [setS, List.set]
      refine wpS_nil (HQ _ fun wz hCz => ?_)
      simp only [closeS, List.drop_succ_cons, List.drop_zero]
      have LZ := hide (bl_trans L10.out hCz.below)
      clear HQ HEQ HXC hCz
      go_wp2_with fail
      refine (known_any wz).mono ?_
      rintro e w9 ⟨rfl, hb9⟩
      go_wp2
      go_ret
      exact ⟨rfl, bl_trans LZ.out hb9⟩
    · have hp' : ¬ (0 : Int) < (n1 : Int) := by omega
      go_wp2_with fail
      have HEQ := hide (fun (wx : World) (hb : Below (wa).heap.size wa wx) => And.intro (validate_any _ _ wx (DI.out.below hb) HSD.out) (rvalidate_any _ _ wx (DI.out.below hb) HSD.out))
      obtain ⟨er, her⟩ : ∃ er, er = errM d := ⟨_, rfl⟩
      rw [← her] at HEQ
      have HXC := hide (fun (wx : World) (hC : CB (wa).drew wx) => show wx.cell? ⟨D, 0, none⟩ = some _ ∧ wx.cell? ⟨D, 1, none⟩ = some _ ∧ wx.cell? ⟨D, 2, none⟩ = some _ ∧ wx.cell? ⟨D, 3, none⟩ = some _ from ⟨(DB.out.below hC.below).cell rfl, (DB.out.below hC.below).cell rfl, (DB.out.below hC.below).cell rfl, (DB.out.below hC.below).cell rfl⟩)
      clear her
      refine wp_region_K 4 (by kernel_rfl) (by kernel_rfl) (fun Q HQ => ?_)
      simp only [List.take_succ_cons, List.take_zero, List.map_cons, List.map_nil]
      repeat
        first | apply wpS_c rfl | apply wpS_gc rfl (guard_mk rfl rfl)
        focus
          intro ev wx hC hx
          (try simp [Op.operands, Call.operands, opndS, Slot.holds] at hx)
          obtain ⟨k0, k1, k2, k3⟩ := HXC.out wx hC
          go_simp
          try (first | exact rfl | exact ⟨Below.refl _ _, rfl⟩ | ((refine (HEQ.out wx hC.below).1.mono ?_; rintro e w' ⟨rfl, hb⟩; exact ⟨rfl, hb⟩)) | ((refine (HEQ.out wx hC.below).2.mono ?_; rintro e w' ⟨rfl, hb⟩; exact ⟨rfl, hb⟩)))
          done
        dsimp only [setS, List.set]
      refine wpS_nil (HQ _ fun wz hCz => ?_)
      simp only [closeS, List.drop_succ_cons, List.drop_zero]
      have LZ := hide (bl_trans LB.out hCz.below)
      clear HQ HEQ HXC hCz
      go_wp2_with fail
      refine (known_any wz).mono ?_
      rintro e w9 ⟨rfl, hb9⟩
      go_wp2
      go_ret
      exact ⟨rfl, bl_trans LZ.out hb9⟩
  · by_cases hp : 0 < n2
    · have hp' : (0 : Int) < (n2 : Int) := by omega
      obtain ⟨m, hm0, hmn⟩ := mod_nat (x := at_) hp
      have HMD := hide (fun (wx : World) => show Calls Try.prog 15 #[.int .i64 at_, .int .i64 (n2 : Int)] wx fun e w' => e = .returned (.int .i64 (m : Int)) ∧ wx = w' from by rw [← hm0]; exact mod_any at_ n2 wx (by omega))
      have HI := hide (isD_open DI.out).2.1
      clear hm0 xy2 xy3
      go_wp2_with (at_builtin; go_loud (refine wpList_append_rd _ rfl (.tmp 52) (.tmp 54) 24 rfl wa.heap.size 35 j0 _ 2 24 Try.underlying24 hj0 hy0 hy1 hy2 rfl (by omega) _ 0 [] rfl (own_empty (Nat.le_refl _) (heap_alloc_eq rfl _)) a2 n2 c2 (d.dir.flatMap encE) rfl (by rw [flat_len encE_len, ← HI.out.1]) (Rd.below HI.out.2 (bl_alloc (bl_refl wa) _)) (encE_one _) (by simp only [maxLen]; omega) (by omega) (by simp) ?_))
      intro v7 w7 ho7 hg7 hat7
      obtain ⟨A7, c7, e7, hc7, hr7⟩ := ownG_form ho7
      obtain rfl := e7
      obtain ⟨q, cur, rfl, hq, -⟩ := ownG_inv ho7 hp
      have HO7 := hide ho7
      have D7 := hide ((DB.out.alloc _).grown hg7 (fun e => by have h9 := DB.out.lt; simp [Value.ownBlock] at e; omega))
      have HG7 := hide hg7
      have xy0 : w7.cell? ⟨D, 0, none⟩ = some _ := D7.out.cell rfl
      have xy1 : w7.cell? ⟨D, 1, none⟩ = some _ := D7.out.cell rfl
      have xl := D7.out.lt
      have xf := D7.out.fr
      clear ho7 hg7 hat7 hr7
      go_wp2_with fail
      have HXD := hide (fun (wx : World) (hC : CB (w7.setCell ⟨D, 1, none⟩ (.slice (some ⟨q, 0, none⟩) n2 c7)).drew wx) => show wx.cell? ⟨D, 1, none⟩ = some (.slice (some ⟨q, 0, none⟩) n2 c7) from ((D7.out.set 1 (.slice (some ⟨q, 0, none⟩) n2 c7)).below hC.below).cell rfl)
      have hmn' : (m : Int) < (n2 : Int) := by omega
      refine wp_region_K 13 (by kernel_rfl) (by kernel_rfl) (fun Q HQ => ?_)
      simp only [List.take_succ_cons, List.take_zero, List.map_cons, List.map_nil]
      repeat
        first | apply wpS_c rfl | apply wpS_gc rfl (guard_mk rfl rfl)
        focus
          intro ev wx hC hx
          (try simp [Op.operands, Call.operands, opndS, Slot.holds] at hx)
          have k3 := HXD.out wx hC
          go_simp
          try (first | exact rfl | exact ⟨Below.refl _ _, rfl⟩)
          done
        dsimp only [setS, List.set]
      apply wpS_c rfl
      focus
        intro ev wx hC hx
        (try simp [Op.operands, Call.operands, opndS, Slot.holds] at hx)
        go_simp
        refine (HMD.out wx).mono ?_; rintro e w' ⟨rfl, rfl⟩; exact ⟨rfl, Below.refl _ _⟩
      dsimp only [setS, List.set]
      repeat
        first | apply wpS_c rfl | apply wpS_gc rfl (guard_mk rfl rfl)
        focus
          intro ev wx hC hx
          (try simp [Op.operands, Call.operands, opndS, Slot.holds] at hx)
          have k3 := HXD.out wx hC
          go_simp
          try (first | exact rfl | exact ⟨Below.refl _ _, rfl⟩)
          done
        dsimp only [setS, List.set]
      refine wpS_p (R := fun v _ => ∃ r : Int, v = .int .i64 r) rfl (fun _ _ _ _ h => h) ?_ ?_
      focus
        intro ev wx hC hx
        (try simp [Op.operands, Call.operands, opndS, Slot.holds] at hx)
        go_simp
        refine (mod_any _ 6 wx (by decide)).mono ?_
        rintro e w' ⟨rfl, rfl⟩
        exact ⟨_, rfl, bl_refl _, _, rfl⟩
      dsimp only [setS, List.set]
      refine wpS_p (R := fun v _ => ∃ r : Int, v = .int .i64 r) rfl (fun _ _ _ _ h => h) ?_ ?_
      focus
        intro ev wx hC hx
        (try simp [Op.operands, Call.operands, opndS, Slot.holds] at hx)
        obtain ⟨⟨r, hr⟩, hx1⟩ := hx
        go_simp
        exact bl_refl _
      dsimp only [setS, List.set]
      repeat
        first | apply wpS_c rfl | apply wpS_gc rfl (guard_mk rfl rfl)
        focus
          intro ev wx hC hx
          (try simp [Op.operands, Call.operands, opndS, Slot.holds] at hx)
          have k3 := HXD.out wx hC
          go_simp
          try (first | exact rfl | exact ⟨Below.refl _ _, rfl⟩)
          done
        dsimp only [setS, List.set]
      refine wpS_nil (HQ _ fun w9 hC9 => ?_)
      simp only [closeS, List.drop_succ_cons, List.drop_zero]
      rintro v66 - v67 ⟨V, rfl⟩
      have hb9 := hC9.below
      have hDw := DB.out.lt
      have hDq : D ≠ q := by omega
      obtain ⟨x, hx⟩ : ∃ x, d.dir[m]? = some x := ⟨_, List.getElem?_eq_getElem (by rw [← HI.out.1]; exact hmn)⟩
      have HO9 := hide (ownG_below (ownG_setlt HO7.out hDw 1 (.slice (some ⟨q, 0, none⟩) n2 c7)) hb9)
      have D9 := hide ((D7.out.set 1 (.slice (some ⟨q, 0, none⟩) n2 c7)).below hb9)
      obtain ⟨y1, fy1⟩ := ownG_at HO9.out (flat_get encE_len _ m 1 _ _ hx rfl)
      skip
      obtain ⟨w10, hw10⟩ : ∃ w10, w10 = w9.setCell ⟨q, m * 2 + 1, none⟩ (.int .i64 V) := ⟨_, rfl⟩
      have hg10 : wa.grownBy w10 (some D) := by
        rw [hw10]
        exact gr_setG (gr_below (gr_setR (grown_of_below (some D) (bl_grown (bl_alloc (bl_refl wa) _) HG7.out (fun k hk => by simp [Value.ownBlock] at hk; omega))) _ _) hb9) hq _ _
      have HO10 := hide (show w10.ownsRow wa.heap.size 35 2 (.slice (some ⟨q, 0, none⟩) n2 c7) n2 ((d.dir.set m (x.1, V)).flatMap encE) by
        rw [hw10, ← flat_set1 _ m x V hx]
        exact ownG_set HO9.out (m * 2 + 1) (.int .i64 V))
      have D10 := hide (show Blk w10 D [.slice a1 n1 c1, .slice (some ⟨q, 0, none⟩) n2 c7, .slice a3 n3 c3, .slice a4 n4 c4] 27 by rw [hw10]; exact D9.out.setne hDq _ _)
      have I10 := hide (show IsD w10 (.agg #[.slice a1 n1 c1, .slice (some ⟨q, 0, none⟩) n2 c7, .slice a3 n3 c3, .slice a4 n4 c4]) ⟨d.inodes, d.dir.set m (x.1, V), d.dur, d.ops⟩ by
        obtain ⟨h1, h2, h3, h4, k1, k2, k3, k4⟩ := isD_open (DI.out.boxed DB.out (allSl4 _ _ _ _ _ _ _ _ _ _ _ _) hg10)
        obtain ⟨r1, r2⟩ := own_RE2 HO10.out (by rw [List.length_set]; exact HI.out.1)
        exact isD_mk h1 r1 h3 h4 k1 r2 k3 k4)
      have L10 := hide (bl_ofD LB.out hwD hg10)
      have S10 := hide (show szD ⟨d.inodes, d.dir.set m (x.1, V), d.dur, d.ops⟩ from ⟨HSD.out.1, by rw [List.length_set]; exact HSD.out.2.1, HSD.out.2.2.1, HSD.out.2.2.2⟩)
      have HW10 := hide hw10.symm
      clear hw10 hg10 hb9 hC9 HQ HXD HMD xy0 xy1 xl xf hx hDw
      go_wp2_with fail
      rw [HW10.out]
      clear HW10 y1 fy1
      have HEQ := hide (fun (wx : World) (hb : Below (w10).heap.size w10 wx) => And.intro (validate_any _ _ wx (I10.out.below hb) S10.out) (rvalidate_any _ _ wx (I10.out.below hb) S10.out))
      obtain ⟨er, her⟩ : ∃ er, er = errM ⟨d.inodes, d.dir.set m (x.1, V), d.dur, d.ops⟩ := ⟨_, rfl⟩
      rw [← her] at HEQ
      have HXC := hide (fun (wx : World) (hC : CB (w10).drew wx) => show wx.cell? ⟨D, 0, none⟩ = some _ ∧ wx.cell? ⟨D, 1, none⟩ = some _ ∧ wx.cell? ⟨D, 2, none⟩ = some _ ∧ wx.cell? ⟨D, 3, none⟩ = some _ from ⟨(D10.out.below hC.below).cell rfl, (D10.out.below hC.below).cell rfl, (D10.out.below hC.below).cell rfl, (D10.out.below hC.below).cell rfl⟩)
      clear her
      refine wp_region_K 4 (by kernel_rfl) (by kernel_rfl) (fun Q HQ => ?_)
      simp only [List.take_succ_cons, List.take_zero, List.map_cons, List.map_nil]
      repeat
        first | apply wpS_c rfl | apply wpS_gc rfl (guard_mk rfl rfl)
        focus
          intro ev wx hC hx
          (try simp [Op.operands, Call.operands, opndS, Slot.holds] at hx)
          obtain ⟨k0, k1, k2, k3⟩ := HXC.out wx hC
          go_simp
          try (first | exact rfl | exact ⟨Below.refl _ _, rfl⟩ | ((refine (HEQ.out wx hC.below).1.mono ?_; rintro e w' ⟨rfl, hb⟩; exact ⟨rfl, hb⟩)) | ((refine (HEQ.out wx hC.below).2.mono ?_; rintro e w' ⟨rfl, hb⟩; exact ⟨rfl, hb⟩)))
          done
        dsimp only [setS, List.set]
      refine wpS_nil (HQ _ fun wz hCz => ?_)
      simp only [closeS, List.drop_succ_cons, List.drop_zero]
      have LZ := hide (bl_trans L10.out hCz.below)
      clear HQ HEQ HXC hCz
      go_wp2_with fail
      refine (known_any wz).mono ?_
      rintro e w9 ⟨rfl, hb9⟩
      go_wp2
      go_ret
      exact ⟨rfl, bl_trans LZ.out hb9⟩
    · have hp' : ¬ (0 : Int) < (n2 : Int) := by omega
      go_wp2_with fail
      have HEQ := hide (fun (wx : World) (hb : Below (wa).heap.size wa wx) => And.intro (validate_any _ _ wx (DI.out.below hb) HSD.out) (rvalidate_any _ _ wx (DI.out.below hb) HSD.out))
      obtain ⟨er, her⟩ : ∃ er, er = errM d := ⟨_, rfl⟩
      rw [← her] at HEQ
      have HXC := hide (fun (wx : World) (hC : CB (wa).drew wx) => show wx.cell? ⟨D, 0, none⟩ = some _ ∧ wx.cell? ⟨D, 1, none⟩ = some _ ∧ wx.cell? ⟨D, 2, none⟩ = some _ ∧ wx.cell? ⟨D, 3, none⟩ = some _ from ⟨(DB.out.below hC.below).cell rfl, (DB.out.below hC.below).cell rfl, (DB.out.below hC.below).cell rfl, (DB.out.below hC.below).cell rfl⟩)
      clear her
      refine wp_region_K 4 (by kernel_rfl) (by kernel_rfl) (fun Q HQ => ?_)
      simp only [List.take_succ_cons, List.take_zero, List.map_cons, List.map_nil]
      repeat
        first | apply wpS_c rfl | apply wpS_gc rfl (guard_mk rfl rfl)
        focus
          intro ev wx hC hx
          (try simp [Op.operands, Call.operands, opndS, Slot.holds] at hx)
          obtain ⟨k0, k1, k2, k3⟩ := HXC.out wx hC
          go_simp
          try (first | exact rfl | exact ⟨Below.refl _ _, rfl⟩ | ((refine (HEQ.out wx hC.below).1.mono ?_; rintro e w' ⟨rfl, hb⟩; exact ⟨rfl, hb⟩)) | ((refine (HEQ.out wx hC.below).2.mono ?_; rintro e w' ⟨rfl, hb⟩; exact ⟨rfl, hb⟩)))
          done
        dsimp only [setS, List.set]
      refine wpS_nil (HQ _ fun wz hCz => ?_)
      simp only [closeS, List.drop_succ_cons, List.drop_zero]
      have LZ := hide (bl_trans LB.out hCz.below)
      clear HQ HEQ HXC hCz
      go_wp2_with fail
      refine (known_any wz).mono ?_
      rintro e w9 ⟨rfl, hb9⟩
      go_wp2
      go_ret
      exact ⟨rfl, bl_trans LZ.out hb9⟩
  · by_cases hp : 0 < n3
    · have hp' : (0 : Int) < (n3 : Int) := by omega
      obtain ⟨m, hm0, hmn⟩ := mod_nat (x := at_) hp
      have HMD := hide (fun (wx : World) => show Calls Try.prog 15 #[.int .i64 at_, .int .i64 (n3 : Int)] wx fun e w' => e = .returned (.int .i64 (m : Int)) ∧ wx = w' from by rw [← hm0]; exact mod_any at_ n3 wx (by omega))
      obtain ⟨b, o, -, -, rfl, -, -, -, -⟩ := (isD_open DI.out).2.2.1.at_ hp
      have hn3c : n3 ≤ c3 := HK.out.1.1
      have hmc : ¬ c3 = m := by omega
      have hmc' : (m : Int) ≤ (n3 : Int) := by omega
      have HXD := hide (fun (wx : World) (hC : CB wa.drew wx) => show wx.cell? ⟨D, 2, none⟩ = some (.slice (some ⟨b, o, none⟩) n3 c3) from (DB.out.below hC.below).cell rfl)
      clear hm0
      go_wp2_with fail
      refine wp_region_K 9 (by kernel_rfl) (by kernel_rfl) (fun Q HQ => ?_)
      simp only [List.take_succ_cons, List.take_zero, List.map_cons, List.map_nil]
      repeat
        first | apply wpS_c rfl | apply wpS_gc rfl (guard_mk rfl rfl)
        focus
          intro ev wx hC hx
          (try simp [Op.operands, Call.operands, opndS, Slot.holds] at hx)
          have k3 := HXD.out wx hC
          go_simp
          try (first | exact rfl | exact ⟨Below.refl _ _, rfl⟩ | ((refine (HMD.out wx).mono ?_; rintro e w' ⟨rfl, rfl⟩; exact ⟨rfl, Below.refl _ _⟩)))
          done
        dsimp only [setS, List.set]
      refine wpS_nil (HQ _ fun w7 hC7 => ?_)
      simp only [closeS, List.drop_succ_cons, List.drop_zero]
      have hb7 := hC7.below
      have D7 := hide (DB.out.below hb7)
      have I7 := hide (DI.out.below hb7)
      have L7 := hide (bl_trans LB.out hb7)
      clear hb7 hC7 HQ HXD HMD xy0 xy1 xy2 xy3 xl xf DB DI LB
      have xy0 : w7.cell? ⟨D, 0, none⟩ = some _ := D7.out.cell rfl
      have xy1 : w7.cell? ⟨D, 1, none⟩ = some _ := D7.out.cell rfl
      have xy2 : w7.cell? ⟨D, 2, none⟩ = some _ := D7.out.cell rfl
      have xy3 : w7.cell? ⟨D, 3, none⟩ = some _ := D7.out.cell rfl
      have xl := D7.out.lt
      have xf := D7.out.fr
      obtain ⟨w8, hw8⟩ : ∃ w8, w8 = w7.setCell ⟨D, 2, none⟩ (.slice (some ⟨b, o + m * 2, none⟩) (n3 - m) (c3 - m)) := ⟨_, rfl⟩
      have hg8 : w7.grownBy w8 (some D) := by rw [hw8]; exact gr_setR (World.grownBy.refl _ _) _ _
      have D8 := hide (show Blk w8 D [.slice a1 n1 c1, .slice a2 n2 c2, .slice (some ⟨b, o + m * 2, none⟩) (n3 - m) (c3 - m), .slice a4 n4 c4] 27 by rw [hw8]; exact D7.out.set 2 _)
      have I8 := hide (show IsD w8 (.agg #[.slice a1 n1 c1, .slice a2 n2 c2, .slice (some ⟨b, o + m * 2, none⟩) (n3 - m) (c3 - m), .slice a4 n4 c4]) ⟨d.inodes, d.dir, d.dur.drop m, d.ops⟩ by
        obtain ⟨h1, h2, h3, h4, k1, k2, k3, k4⟩ := isD_open (I7.out.boxed D7.out (allSl4 _ _ _ _ _ _ _ _ _ _ _ _) hg8)
        exact isD_mk h1 h2 (RE.dropN h3 m) h4 k1 k2 ⟨by omega, Nat.le_trans (Nat.sub_le _ _) k3.2⟩ k4)
      have L8 := hide (bl_ofD L7.out hwD hg8)
      have S8 := hide (show szD ⟨d.inodes, d.dir, d.dur.drop m, d.ops⟩ from ⟨HSD.out.1, HSD.out.2.1, Nat.le_trans (by rw [List.length_drop]; exact Nat.sub_le _ _) HSD.out.2.2.1, HSD.out.2.2.2⟩)
      have HW8 := hide hw8.symm
      clear hw8 hg8 I7 L7
      go_wp2_with fail
      rw [HW8.out]
      clear HW8
      have HEQ := hide (fun (wx : World) (hb : Below (w8).heap.size w8 wx) => And.intro (validate_any _ _ wx (I8.out.below hb) S8.out) (rvalidate_any _ _ wx (I8.out.below hb) S8.out))
      obtain ⟨er, her⟩ : ∃ er, er = errM ⟨d.inodes, d.dir, d.dur.drop m, d.ops⟩ := ⟨_, rfl⟩
      rw [← her] at HEQ
      have HXC := hide (fun (wx : World) (hC : CB (w8).drew wx) => show wx.cell? ⟨D, 0, none⟩ = some _ ∧ wx.cell? ⟨D, 1, none⟩ = some _ ∧ wx.cell? ⟨D, 2, none⟩ = some _ ∧ wx.cell? ⟨D, 3, none⟩ = some _ from ⟨(D8.out.below hC.below).cell rfl, (D8.out.below hC.below).cell rfl, (D8.out.below hC.below).cell rfl, (D8.out.below hC.below).cell rfl⟩)
      clear her
      refine wp_region_K 4 (by kernel_rfl) (by kernel_rfl) (fun Q HQ => ?_)
      simp only [List.take_succ_cons, List.take_zero, List.map_cons, List.map_nil]
      repeat
        first | apply wpS_c rfl | apply wpS_gc rfl (guard_mk rfl rfl)
        focus
          intro ev wx hC hx
          (try simp [Op.operands, Call.operands, opndS, Slot.holds] at hx)
          obtain ⟨k0, k1, k2, k3⟩ := HXC.out wx hC
          go_simp
          try (first | exact rfl | exact ⟨Below.refl _ _, rfl⟩ | ((refine (HEQ.out wx hC.below).1.mono ?_; rintro e w' ⟨rfl, hb⟩; exact ⟨rfl, hb⟩)) | ((refine (HEQ.out wx hC.below).2.mono ?_; rintro e w' ⟨rfl, hb⟩; exact ⟨rfl, hb⟩)))
          done
        dsimp only [setS, List.set]
      refine wpS_nil (HQ _ fun wz hCz => ?_)
      simp only [closeS, List.drop_succ_cons, List.drop_zero]
      have LZ := hide (bl_trans L8.out hCz.below)
      clear HQ HEQ HXC hCz
      go_wp2_with fail
      refine (known_any wz).mono ?_
      rintro e w9 ⟨rfl, hb9⟩
      go_wp2
      go_ret
      exact ⟨rfl, bl_trans LZ.out hb9⟩
    · have hp' : ¬ (0 : Int) < (n3 : Int) := by omega
      go_wp2_with fail
      have HEQ := hide (fun (wx : World) (hb : Below (wa).heap.size wa wx) => And.intro (validate_any _ _ wx (DI.out.below hb) HSD.out) (rvalidate_any _ _ wx (DI.out.below hb) HSD.out))
      obtain ⟨er, her⟩ : ∃ er, er = errM d := ⟨_, rfl⟩
      rw [← her] at HEQ
      have HXC := hide (fun (wx : World) (hC : CB (wa).drew wx) => show wx.cell? ⟨D, 0, none⟩ = some _ ∧ wx.cell? ⟨D, 1, none⟩ = some _ ∧ wx.cell? ⟨D, 2, none⟩ = some _ ∧ wx.cell? ⟨D, 3, none⟩ = some _ from ⟨(DB.out.below hC.below).cell rfl, (DB.out.below hC.below).cell rfl, (DB.out.below hC.below).cell rfl, (DB.out.below hC.below).cell rfl⟩)
      clear her
      refine wp_region_K 4 (by kernel_rfl) (by kernel_rfl) (fun Q HQ => ?_)
      simp only [List.take_succ_cons, List.take_zero, List.map_cons, List.map_nil]
      repeat
        first | apply wpS_c rfl | apply wpS_gc rfl (guard_mk rfl rfl)
        focus
          intro ev wx hC hx
          (try simp [Op.operands, Call.operands, opndS, Slot.holds] at hx)
          obtain ⟨k0, k1, k2, k3⟩ := HXC.out wx hC
          go_simp
          try (first | exact rfl | exact ⟨Below.refl _ _, rfl⟩ | ((refine (HEQ.out wx hC.below).1.mono ?_; rintro e w' ⟨rfl, hb⟩; exact ⟨rfl, hb⟩)) | ((refine (HEQ.out wx hC.below).2.mono ?_; rintro e w' ⟨rfl, hb⟩; exact ⟨rfl, hb⟩)))
          done
        dsimp only [setS, List.set]
      refine wpS_nil (HQ _ fun wz hCz => ?_)
      simp only [closeS, List.drop_succ_cons, List.drop_zero]
      have LZ := hide (bl_trans LB.out hCz.below)
      clear HQ HEQ HXC hCz
      go_wp2_with fail
      refine (known_any wz).mono ?_
      rintro e w9 ⟨rfl, hb9⟩
      go_wp2
      go_ret
      exact ⟨rfl, bl_trans LZ.out hb9⟩
  · by_cases hp : 0 < n4
    · have hp' : (0 : Int) < (n4 : Int) := by omega
      obtain ⟨m, hm0, hmn⟩ := mod_nat (x := at_) hp
      have HMD := hide (fun (wx : World) => show Calls Try.prog 15 #[.int .i64 at_, .int .i64 (n4 : Int)] wx fun e w' => e = .returned (.int .i64 (m : Int)) ∧ wx = w' from by rw [← hm0]; exact mod_any at_ n4 wx (by omega))
      have hmc : m ≤ c4 := by have := HK.out.2.1; omega
      have hmc' : (m : Int) ≤ (c4 : Int) := by omega
      have HXD := hide (fun (wx : World) (hC : CB wa.drew wx) => show wx.cell? ⟨D, 3, none⟩ = some (.slice a4 n4 c4) from (DB.out.below hC.below).cell rfl)
      clear hm0
      go_wp2_with fail
      refine wp_region_K 9 (by kernel_rfl) (by kernel_rfl) (fun Q HQ => ?_)
      simp only [List.take_succ_cons, List.take_zero, List.map_cons, List.map_nil]
      repeat
        first | apply wpS_c rfl | apply wpS_gc rfl (guard_mk rfl rfl)
        focus
          intro ev wx hC hx
          (try simp [Op.operands, Call.operands, opndS, Slot.holds] at hx)
          have k3 := HXD.out wx hC
          go_simp
          try (first | exact rfl | exact ⟨Below.refl _ _, rfl⟩ | ((refine (HMD.out wx).mono ?_; rintro e w' ⟨rfl, rfl⟩; exact ⟨rfl, Below.refl _ _⟩)))
          done
        dsimp only [setS, List.set]
      refine wpS_nil (HQ _ fun w7 hC7 => ?_)
      simp only [closeS, List.drop_succ_cons, List.drop_zero]
      have hb7 := hC7.below
      have D7 := hide (DB.out.below hb7)
      have I7 := hide (DI.out.below hb7)
      have L7 := hide (bl_trans LB.out hb7)
      clear hb7 hC7 HQ HXD HMD xy0 xy1 xy2 xy3 xl xf DB DI LB
      have xy0 : w7.cell? ⟨D, 0, none⟩ = some _ := D7.out.cell rfl
      have xy1 : w7.cell? ⟨D, 1, none⟩ = some _ := D7.out.cell rfl
      have xy2 : w7.cell? ⟨D, 2, none⟩ = some _ := D7.out.cell rfl
      have xy3 : w7.cell? ⟨D, 3, none⟩ = some _ := D7.out.cell rfl
      have xl := D7.out.lt
      have xf := D7.out.fr
      obtain ⟨w8, hw8⟩ : ∃ w8, w8 = w7.setCell ⟨D, 3, none⟩ (.slice a4 m c4) := ⟨_, rfl⟩
      have hg8 : w7.grownBy w8 (some D) := by rw [hw8]; exact gr_setR (World.grownBy.refl _ _) _ _
      have D8 := hide (show Blk w8 D [.slice a1 n1 c1, .slice a2 n2 c2, .slice a3 n3 c3, .slice a4 m c4] 27 by rw [hw8]; exact D7.out.set 3 _)
      have I8 := hide (show IsD w8 (.agg #[.slice a1 n1 c1, .slice a2 n2 c2, .slice a3 n3 c3, .slice a4 m c4]) ⟨d.inodes, d.dir, d.dur, d.ops.take m⟩ by
        obtain ⟨h1, h2, h3, h4, k1, k2, k3, k4⟩ := isD_open (I7.out.boxed D7.out (allSl4 _ _ _ _ _ _ _ _ _ _ _ _) hg8)
        exact isD_mk h1 h2 h3 (RO.take h4 (by omega)) k1 k2 k3 ⟨hmc, k4.2⟩)
      have L8 := hide (bl_ofD L7.out hwD hg8)
      have S8 := hide (show szD ⟨d.inodes, d.dir, d.dur, d.ops.take m⟩ from ⟨HSD.out.1, HSD.out.2.1, HSD.out.2.2.1, Nat.le_trans (List.length_take_le' _ _) HSD.out.2.2.2⟩)
      have HW8 := hide hw8.symm
      clear hw8 hg8 I7 L7
      go_wp2_with fail
      rw [HW8.out]
      clear HW8
      have HEQ := hide (fun (wx : World) (hb : Below (w8).heap.size w8 wx) => And.intro (validate_any _ _ wx (I8.out.below hb) S8.out) (rvalidate_any _ _ wx (I8.out.below hb) S8.out))
      obtain ⟨er, her⟩ : ∃ er, er = errM ⟨d.inodes, d.dir, d.dur, d.ops.take m⟩ := ⟨_, rfl⟩
      rw [← her] at HEQ
      have HXC := hide (fun (wx : World) (hC : CB (w8).drew wx) => show wx.cell? ⟨D, 0, none⟩ = some _ ∧ wx.cell? ⟨D, 1, none⟩ = some _ ∧ wx.cell? ⟨D, 2, none⟩ = some _ ∧ wx.cell? ⟨D, 3, none⟩ = some _ from ⟨(D8.out.below hC.below).cell rfl, (D8.out.below hC.below).cell rfl, (D8.out.below hC.below).cell rfl, (D8.out.below hC.below).cell rfl⟩)
      clear her
      refine wp_region_K 4 (by kernel_rfl) (by kernel_rfl) (fun Q HQ => ?_)
      simp only [List.take_succ_cons, List.take_zero, List.map_cons, List.map_nil]
      repeat
        first | apply wpS_c rfl | apply wpS_gc rfl (guard_mk rfl rfl)
        focus
          intro ev wx hC hx
          (try simp [Op.operands, Call.operands, opndS, Slot.holds] at hx)
          obtain ⟨k0, k1, k2, k3⟩ := HXC.out wx hC
          go_simp
          try (first | exact rfl | exact ⟨Below.refl _ _, rfl⟩ | ((refine (HEQ.out wx hC.below).1.mono ?_; rintro e w' ⟨rfl, hb⟩; exact ⟨rfl, hb⟩)) | ((refine (HEQ.out wx hC.below).2.mono ?_; rintro e w' ⟨rfl, hb⟩; exact ⟨rfl, hb⟩)))
          done
        dsimp only [setS, List.set]
      refine wpS_nil (HQ _ fun wz hCz => ?_)
      simp only [closeS, List.drop_succ_cons, List.drop_zero]
      have LZ := hide (bl_trans L8.out hCz.below)
      clear HQ HEQ HXC hCz
      go_wp2_with fail
      refine (known_any wz).mono ?_
      rintro e w9 ⟨rfl, hb9⟩
      go_wp2
      go_ret
      exact ⟨rfl, bl_trans LZ.out hb9⟩
    · have hp' : ¬ (0 : Int) < (n4 : Int) := by omega
      go_wp2_with fail
      have HEQ := hide (fun (wx : World) (hb : Below (wa).heap.size wa wx) => And.intro (validate_any _ _ wx (DI.out.below hb) HSD.out) (rvalidate_any _ _ wx (DI.out.below hb) HSD.out))
      obtain ⟨er, her⟩ : ∃ er, er = errM d := ⟨_, rfl⟩
      rw [← her] at HEQ
      have HXC := hide (fun (wx : World) (hC : CB (wa).drew wx) => show wx.cell? ⟨D, 0, none⟩ = some _ ∧ wx.cell? ⟨D, 1, none⟩ = some _ ∧ wx.cell? ⟨D, 2, none⟩ = some _ ∧ wx.cell? ⟨D, 3, none⟩ = some _ from ⟨(DB.out.below hC.below).cell rfl, (DB.out.below hC.below).cell rfl, (DB.out.below hC.below).cell rfl, (DB.out.below hC.below).cell rfl⟩)
      clear her
      refine wp_region_K 4 (by kernel_rfl) (by kernel_rfl) (fun Q HQ => ?_)
      simp only [List.take_succ_cons, List.take_zero, List.map_cons, List.map_nil]
      repeat
        first | apply wpS_c rfl | apply wpS_gc rfl (guard_mk rfl rfl)
        focus
          intro ev wx hC hx
          (try simp [Op.operands, Call.operands, opndS, Slot.holds] at hx)
          obtain ⟨k0, k1, k2, k3⟩ := HXC.out wx hC
          go_simp
          try (first | exact rfl | exact ⟨Below.refl _ _, rfl⟩ | ((refine (HEQ.out wx hC.below).1.mono ?_; rintro e w' ⟨rfl, hb⟩; exact ⟨rfl, hb⟩)) | ((refine (HEQ.out wx hC.below).2.mono ?_; rintro e w' ⟨rfl, hb⟩; exact ⟨rfl, hb⟩)))
          done
        dsimp only [setS, List.set]
      refine wpS_nil (HQ _ fun wz hCz => ?_)
      simp only [closeS, List.drop_succ_cons, List.drop_zero]
      have LZ := hide (bl_trans LB.out hCz.below)
      clear HQ HEQ HXC hCz
      go_wp2_with fail
      refine (known_any wz).mono ?_
      rintro e w9 ⟨rfl, hb9⟩
      go_wp2
      go_ret
      exact ⟨rfl, bl_trans LZ.out hb9⟩
  · have HI := hide (isD_open DI.out).1
    clear xy1 xy2 xy3
    go_wp2_with (at_builtin; go_loud (refine wpList_append_rd _ rfl (.tmp 109) (.tmp 111) 23 rfl wa.heap.size 33 i0 _ 2 24 Try.underlying23 hi0 hz0 hz1 hz2 rfl (by omega) _ 0 [] rfl (own_empty (Nat.le_refl _) (heap_alloc_eq rfl _)) a1 n1 c1 (d.inodes.flatMap encE) rfl (by rw [flat_len encE_len, ← HI.out.1]) (Rd.below HI.out.2 (bl_alloc (bl_refl wa) _)) (encE_one _) (by simp only [maxLen]; omega) (by omega) (by simp) ?_))
    intro v7 w7 ho7 hg7 hat7
    have HO7 := hide ho7
    have hb7 := bl_grown (bl_alloc (bl_refl wa) _) hg7 (fun k hk => by simp [Value.ownBlock] at hk; omega)
    have HB7 := hide hb7
    have hs7 := hb7.size
    clear ho7 hg7 hat7 hb7
    go_wp2_with (at_builtin; go_loud (refine wpList_append_rd _ rfl (.tmp 112) (.tmp 114) 23 rfl wa.heap.size 33 i0 _ 2 24 Try.underlying23 hi0 hz0 hz1 hz2 rfl (by omega) _ _ _ rfl (ownG_below HO7.out (bl_alloc (bl_refl _) _)) _ 1 _ ([(([] : List UInt8), (0 : Int))].flatMap encE) rfl rfl (rd_oneEG (by simp) (([] : List UInt8), (0 : Int)) _) (encE_one _) (by simp only [maxLen]; omega) (by omega) (by simp; omega) ?_))
    intro v8 w8 ho8 hg8 hat8
    have hDw := DB.out.lt
    have hb8 : Below wa.heap.size wa w8 := bl_grown (bl_alloc HB7.out _) hg8 (fun k hk => (ownG_lt HO7.out hk).1)
    rw [show List.flatMap encE d.inodes ++ encE ([], 0) = (d.inodes ++ [([], 0)]).flatMap encE by simp] at ho8
    obtain ⟨A8, c8, e8, hc8, hr8⟩ := ownG_form ho8
    obtain rfl := e8
    have D8 := hide (DB.out.below hb8)
    have xy0 : w8.cell? ⟨D, 0, none⟩ = some _ := D8.out.cell rfl
    have xl := D8.out.lt
    have xf := D8.out.fr
    obtain ⟨w10, hw10⟩ : ∃ w10, w10 = w8.setCell ⟨D, 0, none⟩ (.slice A8 (n1 + 1) c8) := ⟨_, rfl⟩
    have hg10 : wa.grownBy w10 (some D) := by rw [hw10]; exact gr_setR (grown_of_below (some D) hb8) _ _
    have D10 := hide (show Blk w10 D [.slice A8 (n1 + 1) c8, .slice a2 n2 c2, .slice a3 n3 c3, .slice a4 n4 c4] 27 by rw [hw10]; exact D8.out.set 0 _)
    have I10 := hide (show IsD w10 (.agg #[.slice A8 (n1 + 1) c8, .slice a2 n2 c2, .slice a3 n3 c3, .slice a4 n4 c4]) ⟨d.inodes ++ [([], 0)], d.dir, d.dur, d.ops⟩ by
      obtain ⟨h1, h2, h3, h4, k1, k2, k3, k4⟩ := isD_open (DI.out.boxed DB.out (allSl4 _ _ _ _ _ _ _ _ _ _ _ _) hg10)
      have ho10 : w10.ownsRow wa.heap.size 33 2 (.slice A8 (n1 + 1) c8) (n1 + 1) ((d.inodes ++ [([], 0)]).flatMap encE) := by rw [hw10]; exact ownG_setlt ho8 hDw _ _
      obtain ⟨r1, r2⟩ := own_RE2 ho10 (by rw [List.length_append, ← HI.out.1]; rfl)
      exact isD_mk r1 h2 h3 h4 r2 k2 k3 k4)
    have L10 := hide (bl_ofD LB.out hwD hg10)
    have S10 := hide (show szD ⟨d.inodes ++ [([], 0)], d.dir, d.dur, d.ops⟩ from ⟨by rw [List.length_append, ← HI.out.1]; simp; omega, HSD.out.2.1, HSD.out.2.2.1, HSD.out.2.2.2⟩)
    have HW10 := hide hw10.symm
    clear hw10 hg10 hb8 ho8 hg8 hat8 hr8 HO7 HB7 hs7
    go_wp2_with fail
    rw [HW10.out]
    clear HW10 xy0 xl xf
    have HEQ := hide (fun (wx : World) (hb : Below (w10).heap.size w10 wx) => And.intro (validate_any _ _ wx (I10.out.below hb) S10.out) (rvalidate_any _ _ wx (I10.out.below hb) S10.out))
    obtain ⟨er, her⟩ : ∃ er, er = errM ⟨d.inodes ++ [([], 0)], d.dir, d.dur, d.ops⟩ := ⟨_, rfl⟩
    rw [← her] at HEQ
    have HXC := hide (fun (wx : World) (hC : CB (w10).drew wx) => show wx.cell? ⟨D, 0, none⟩ = some _ ∧ wx.cell? ⟨D, 1, none⟩ = some _ ∧ wx.cell? ⟨D, 2, none⟩ = some _ ∧ wx.cell? ⟨D, 3, none⟩ = some _ from ⟨(D10.out.below hC.below).cell rfl, (D10.out.below hC.below).cell rfl, (D10.out.below hC.below).cell rfl, (D10.out.below hC.below).cell rfl⟩)
    clear her
    refine wp_region_K 4 (by kernel_rfl) (by kernel_rfl) (fun Q HQ => ?_)
    simp only [List.take_succ_cons, List.take_zero, List.map_cons, List.map_nil]
    repeat
      first | apply wpS_c rfl | apply wpS_gc rfl (guard_mk rfl rfl)
      focus
        intro ev wx hC hx
        (try simp [Op.operands, Call.operands, opndS, Slot.holds] at hx)
        obtain ⟨k0, k1, k2, k3⟩ := HXC.out wx hC
        go_simp
        try (first | exact rfl | exact ⟨Below.refl _ _, rfl⟩ | ((refine (HEQ.out wx hC.below).1.mono ?_; rintro e w' ⟨rfl, hb⟩; exact ⟨rfl, hb⟩)) | ((refine (HEQ.out wx hC.below).2.mono ?_; rintro e w' ⟨rfl, hb⟩; exact ⟨rfl, hb⟩)))
        done
      dsimp only [setS, List.set]
    refine wpS_nil (HQ _ fun wz hCz => ?_)
    simp only [closeS, List.drop_succ_cons, List.drop_zero]
    have LZ := hide (bl_trans L10.out hCz.below)
    clear HQ HEQ HXC hCz
    go_wp2_with fail
    refine (known_any wz).mono ?_
    rintro e w9 ⟨rfl, hb9⟩
    go_wp2
    go_ret
    exact ⟨rfl, bl_trans LZ.out hb9⟩
  · by_cases hp : 0 < n2
    · have hp' : (0 : Int) < (n2 : Int) := by omega
      obtain ⟨m, hm0, hmn⟩ := mod_nat (x := at_) hp
      have HMD := hide (fun (wx : World) => show Calls Try.prog 15 #[.int .i64 at_, .int .i64 (n2 : Int)] wx fun e w' => e = .returned (.int .i64 (m : Int)) ∧ wx = w' from by rw [← hm0]; exact mod_any at_ n2 wx (by omega))
      have HI := hide (isD_open DI.out).2.1
      clear hm0 xy2 xy3
      go_wp2_with (at_builtin; go_loud (refine wpList_append_rd _ rfl (.tmp 126) (.tmp 128) 24 rfl wa.heap.size 35 j0 _ 2 24 Try.underlying24 hj0 hy0 hy1 hy2 rfl (by omega) _ 0 [] rfl (own_empty (Nat.le_refl _) (heap_alloc_eq rfl _)) a2 n2 c2 (d.dir.flatMap encE) rfl (by rw [flat_len encE_len, ← HI.out.1]) (Rd.below HI.out.2 (bl_alloc (bl_refl wa) _)) (encE_one _) (by simp only [maxLen]; omega) (by omega) (by simp) ?_))
      intro v7 w7 ho7 hg7 hat7
      obtain ⟨A7, c7, e7, hc7, hr7⟩ := ownG_form ho7
      obtain rfl := e7
      obtain ⟨q, cur, rfl, hq, -⟩ := ownG_inv ho7 hp
      have HO7 := hide ho7
      have D7 := hide ((DB.out.alloc _).grown hg7 (fun e => by have h9 := DB.out.lt; simp [Value.ownBlock] at e; omega))
      have HG7 := hide hg7
      have xy0 : w7.cell? ⟨D, 0, none⟩ = some _ := D7.out.cell rfl
      have xy1 : w7.cell? ⟨D, 1, none⟩ = some _ := D7.out.cell rfl
      have xl := D7.out.lt
      have xf := D7.out.fr
      clear ho7 hg7 hat7 hr7
      go_wp2_with fail
      have HXD := hide (fun (wx : World) (hC : CB (w7.setCell ⟨D, 1, none⟩ (.slice (some ⟨q, 0, none⟩) n2 c7)).drew wx) => show wx.cell? ⟨D, 1, none⟩ = some (.slice (some ⟨q, 0, none⟩) n2 c7) from ((D7.out.set 1 (.slice (some ⟨q, 0, none⟩) n2 c7)).below hC.below).cell rfl)
      have hmn' : (m : Int) < (n2 : Int) := by omega
      refine wp_region_K 12 (by kernel_rfl) (by kernel_rfl) (fun Q HQ => ?_)
      simp only [List.take_succ_cons, List.take_zero, List.map_cons, List.map_nil]
      repeat
        first | apply wpS_c rfl | apply wpS_gc rfl (guard_mk rfl rfl)
        focus
          intro ev wx hC hx
          (try simp [Op.operands, Call.operands, opndS, Slot.holds] at hx)
          have k3 := HXD.out wx hC
          go_simp
          try (first | exact rfl | exact ⟨Below.refl _ _, rfl⟩ | ((refine (HMD.out wx).mono ?_; rintro e w' ⟨rfl, rfl⟩; exact ⟨rfl, Below.refl _ _⟩)))
          done
        dsimp only [setS, List.set]
      refine wpS_p (R := fun v _ => ∃ s : List UInt8, v = .string (bstr s)) rfl (fun _ _ _ _ h => h) ?_ ?_
      focus
        intro ev wx hC hx
        (try simp [Op.operands, Call.operands, opndS, Slot.holds] at hx)
        go_simp
        refine (name_any _ wx).mono ?_
        rintro e w' ⟨s, rfl, -, hb⟩
        exact ⟨_, rfl, hb, s, rfl⟩
      dsimp only [setS, List.set]
      repeat
        first | apply wpS_c rfl | apply wpS_gc rfl (guard_mk rfl rfl)
        focus
          intro ev wx hC hx
          (try simp [Op.operands, Call.operands, opndS, Slot.holds] at hx)
          have k3 := HXD.out wx hC
          go_simp
          try (first | exact rfl | exact ⟨Below.refl _ _, rfl⟩)
          done
        dsimp only [setS, List.set]
      refine wpS_nil (HQ _ fun w9 hC9 => ?_)
      simp only [closeS, List.drop_succ_cons, List.drop_zero]
      rintro v140 ⟨s, rfl⟩
      have hb9 := hC9.below
      have hDw := DB.out.lt
      have hDq : D ≠ q := by omega
      obtain ⟨x, hx⟩ : ∃ x, d.dir[m]? = some x := ⟨_, List.getElem?_eq_getElem (by rw [← HI.out.1]; exact hmn)⟩
      have HO9 := hide (ownG_below (ownG_setlt HO7.out hDw 1 (.slice (some ⟨q, 0, none⟩) n2 c7)) hb9)
      have D9 := hide ((D7.out.set 1 (.slice (some ⟨q, 0, none⟩) n2 c7)).below hb9)
      obtain ⟨y1, fy1⟩ := ownG_at HO9.out (flat_get encE_len _ m 0 _ _ hx rfl)
      rw [Nat.add_zero] at y1 fy1
      obtain ⟨w10, hw10⟩ : ∃ w10, w10 = w9.setCell ⟨q, m * 2, none⟩ (.string (bstr s)) := ⟨_, rfl⟩
      have hg10 : wa.grownBy w10 (some D) := by
        rw [hw10]
        exact gr_setG (gr_below (gr_setR (grown_of_below (some D) (bl_grown (bl_alloc (bl_refl wa) _) HG7.out (fun k hk => by simp [Value.ownBlock] at hk; omega))) _ _) hb9) hq _ _
      have HO10 := hide (show w10.ownsRow wa.heap.size 35 2 (.slice (some ⟨q, 0, none⟩) n2 c7) n2 ((d.dir.set m (s, x.2)).flatMap encE) by
        rw [hw10, ← flat_set0 _ m x s hx]
        exact ownG_set HO9.out (m * 2) (.string (bstr s)))
      have D10 := hide (show Blk w10 D [.slice a1 n1 c1, .slice (some ⟨q, 0, none⟩) n2 c7, .slice a3 n3 c3, .slice a4 n4 c4] 27 by rw [hw10]; exact D9.out.setne hDq _ _)
      have I10 := hide (show IsD w10 (.agg #[.slice a1 n1 c1, .slice (some ⟨q, 0, none⟩) n2 c7, .slice a3 n3 c3, .slice a4 n4 c4]) ⟨d.inodes, d.dir.set m (s, x.2), d.dur, d.ops⟩ by
        obtain ⟨h1, h2, h3, h4, k1, k2, k3, k4⟩ := isD_open (DI.out.boxed DB.out (allSl4 _ _ _ _ _ _ _ _ _ _ _ _) hg10)
        obtain ⟨r1, r2⟩ := own_RE2 HO10.out (by rw [List.length_set]; exact HI.out.1)
        exact isD_mk h1 r1 h3 h4 k1 r2 k3 k4)
      have L10 := hide (bl_ofD LB.out hwD hg10)
      have S10 := hide (show szD ⟨d.inodes, d.dir.set m (s, x.2), d.dur, d.ops⟩ from ⟨HSD.out.1, by rw [List.length_set]; exact HSD.out.2.1, HSD.out.2.2.1, HSD.out.2.2.2⟩)
      have HW10 := hide hw10.symm
      clear hw10 hg10 hb9 hC9 HQ HXD HMD xy0 xy1 xl xf hx hDw
      go_wp2_with fail
      rw [HW10.out]
      clear HW10 y1 fy1
      have HEQ := hide (fun (wx : World) (hb : Below (w10).heap.size w10 wx) => And.intro (validate_any _ _ wx (I10.out.below hb) S10.out) (rvalidate_any _ _ wx (I10.out.below hb) S10.out))
      obtain ⟨er, her⟩ : ∃ er, er = errM ⟨d.inodes, d.dir.set m (s, x.2), d.dur, d.ops⟩ := ⟨_, rfl⟩
      rw [← her] at HEQ
      have HXC := hide (fun (wx : World) (hC : CB (w10).drew wx) => show wx.cell? ⟨D, 0, none⟩ = some _ ∧ wx.cell? ⟨D, 1, none⟩ = some _ ∧ wx.cell? ⟨D, 2, none⟩ = some _ ∧ wx.cell? ⟨D, 3, none⟩ = some _ from ⟨(D10.out.below hC.below).cell rfl, (D10.out.below hC.below).cell rfl, (D10.out.below hC.below).cell rfl, (D10.out.below hC.below).cell rfl⟩)
      clear her
      refine wp_region_K 4 (by kernel_rfl) (by kernel_rfl) (fun Q HQ => ?_)
      simp only [List.take_succ_cons, List.take_zero, List.map_cons, List.map_nil]
      repeat
        first | apply wpS_c rfl | apply wpS_gc rfl (guard_mk rfl rfl)
        focus
          intro ev wx hC hx
          (try simp [Op.operands, Call.operands, opndS, Slot.holds] at hx)
          obtain ⟨k0, k1, k2, k3⟩ := HXC.out wx hC
          go_simp
          try (first | exact rfl | exact ⟨Below.refl _ _, rfl⟩ | ((refine (HEQ.out wx hC.below).1.mono ?_; rintro e w' ⟨rfl, hb⟩; exact ⟨rfl, hb⟩)) | ((refine (HEQ.out wx hC.below).2.mono ?_; rintro e w' ⟨rfl, hb⟩; exact ⟨rfl, hb⟩)))
          done
        dsimp only [setS, List.set]
      refine wpS_nil (HQ _ fun wz hCz => ?_)
      simp only [closeS, List.drop_succ_cons, List.drop_zero]
      have LZ := hide (bl_trans L10.out hCz.below)
      clear HQ HEQ HXC hCz
      go_wp2_with fail
      refine (known_any wz).mono ?_
      rintro e w9 ⟨rfl, hb9⟩
      go_wp2
      go_ret
      exact ⟨rfl, bl_trans LZ.out hb9⟩
    · have hp' : ¬ (0 : Int) < (n2 : Int) := by omega
      go_wp2_with fail
      have HEQ := hide (fun (wx : World) (hb : Below (wa).heap.size wa wx) => And.intro (validate_any _ _ wx (DI.out.below hb) HSD.out) (rvalidate_any _ _ wx (DI.out.below hb) HSD.out))
      obtain ⟨er, her⟩ : ∃ er, er = errM d := ⟨_, rfl⟩
      rw [← her] at HEQ
      have HXC := hide (fun (wx : World) (hC : CB (wa).drew wx) => show wx.cell? ⟨D, 0, none⟩ = some _ ∧ wx.cell? ⟨D, 1, none⟩ = some _ ∧ wx.cell? ⟨D, 2, none⟩ = some _ ∧ wx.cell? ⟨D, 3, none⟩ = some _ from ⟨(DB.out.below hC.below).cell rfl, (DB.out.below hC.below).cell rfl, (DB.out.below hC.below).cell rfl, (DB.out.below hC.below).cell rfl⟩)
      clear her
      refine wp_region_K 4 (by kernel_rfl) (by kernel_rfl) (fun Q HQ => ?_)
      simp only [List.take_succ_cons, List.take_zero, List.map_cons, List.map_nil]
      repeat
        first | apply wpS_c rfl | apply wpS_gc rfl (guard_mk rfl rfl)
        focus
          intro ev wx hC hx
          (try simp [Op.operands, Call.operands, opndS, Slot.holds] at hx)
          obtain ⟨k0, k1, k2, k3⟩ := HXC.out wx hC
          go_simp
          try (first | exact rfl | exact ⟨Below.refl _ _, rfl⟩ | ((refine (HEQ.out wx hC.below).1.mono ?_; rintro e w' ⟨rfl, hb⟩; exact ⟨rfl, hb⟩)) | ((refine (HEQ.out wx hC.below).2.mono ?_; rintro e w' ⟨rfl, hb⟩; exact ⟨rfl, hb⟩)))
          done
        dsimp only [setS, List.set]
      refine wpS_nil (HQ _ fun wz hCz => ?_)
      simp only [closeS, List.drop_succ_cons, List.drop_zero]
      have LZ := hide (bl_trans LB.out hCz.below)
      clear HQ HEQ HXC hCz
      go_wp2_with fail
      refine (known_any wz).mono ?_
      rintro e w9 ⟨rfl, hb9⟩
      go_wp2
      go_ret
      exact ⟨rfl, bl_trans LZ.out hb9⟩
end diskSpoilt
end Go.Proofs.Ytjpmfiicbokdcaa
