/- The walk of the reference's CompareRegions: it returns. The walk of the reference's Nodes: without an error the nodes are in preorder, and each lies within its parent, behind its sister. The walk of the reference's regions: it returns. The walk of the reference's texts: without an error every text lies within the tokens. -/
import Derived.Test.YtbpkclopcoaikaaGreatDoorMj
import Derived.Test.YtbpkclopcoaikaaGreatDoorMc
namespace Go.Proofs.YtbpkclopcoaikaaGreatDoor
open Go.RowKit
set_option linter.unusedVariables false
set_option linter.unusedSimpArgs false
abbrev Tx.v (x : Tx) : Value := .agg #[.string (bstr x.lab), .int .i64 x.b, .int .i64 x.e, .slice x.s.a x.s.n x.s.c]
set_option maxHeartbeats 8000000 in
set_option maxRecDepth 100000 in
theorem compR_any (x y : Tx) (w : World) (hx : IsP w x.s.a x.s.n x.ps ∧ x.s.n ≤ x.s.c ∧ x.s.c ≤ big) (hy : IsP w y.s.a y.s.n y.ps ∧ y.s.n ≤ y.s.c ∧ y.s.c ≤ big) : Calls Tryz.prog 86 #[x.v, y.v] w (IntP w) := by
  obtain ⟨xl, xb, xe, ⟨xa, xn, xc⟩, xp⟩ := x
  obtain ⟨yl, yb, ye, ⟨ya, yn, yc⟩, yp⟩ := y
  simp only [big] at hx hy
  obtain ⟨hx1, hx2, hx3⟩ := hx
  obtain ⟨hy1, hy2, hy3⟩ := hy
  obtain ⟨k, hk⟩ : ∃ k, k = w.heap.size := ⟨_, rfl⟩
  have hb1 := bl_alloc (bl_refl w) (.cells #[.string (bstr xl), .int .i64 xb, .int .i64 xe, .slice xa xn xc] 76 (0, 0))
  have hb2 := bl_alloc hb1 (.cells #[.string (bstr yl), .int .i64 yb, .int .i64 ye, .slice ya yn yc] 76 (0, 0))
  have hc1 := heap_alloc_new w (.cells #[.string (bstr xl), .int .i64 xb, .int .i64 xe, .slice xa xn xc] 76 (0, 0))
  have hc2 := heap_alloc_new (w.alloc (.cells #[.string (bstr xl), .int .i64 xb, .int .i64 xe, .slice xa xn xc] 76 (0, 0))) (.cells #[.string (bstr yl), .int .i64 yb, .int .i64 ye, .slice ya yn yc] 76 (0, 0))
  rw [show (w.alloc (.cells #[.string (bstr xl), .int .i64 xb, .int .i64 xe, .slice xa xn xc] 76 (0, 0))).heap.size = w.heap.size + 1 by simp] at hc2
  have hc1' := (heap_alloc_old (w.alloc (.cells #[.string (bstr xl), .int .i64 xb, .int .i64 xe, .slice xa xn xc] 76 (0, 0))) (.cells #[.string (bstr yl), .int .i64 yb, .int .i64 ye, .slice ya yn yc] 76 (0, 0)) (Array.getElem?_eq_some_iff.1 hc1).1).trans hc1
  obtain ⟨W0, hW0⟩ : ∃ W0, W0 = (w.alloc (.cells #[.string (bstr xl), .int .i64 xb, .int .i64 xe, .slice xa xn xc] 76 (0, 0))).alloc (.cells #[.string (bstr yl), .int .i64 yb, .int .i64 ye, .slice ya yn yc] 76 (0, 0)) := ⟨_, rfl⟩
  rw [← hW0] at hb2 hc2 hc1'
  rw [← hk] at hc2 hc1'
  have p0 : W0.cell? ⟨k, 0, none⟩ = some (.string (bstr xl)) := cell_of_row _ _ 0 _ _ _ hc1'
  have p1 : W0.cell? ⟨k, 1, none⟩ = some (.int .i64 xb) := cell_of_row _ _ 1 _ _ _ hc1'
  have p2 : W0.cell? ⟨k, 2, none⟩ = some (.int .i64 xe) := cell_of_row _ _ 2 _ _ _ hc1'
  have p3 : W0.cell? ⟨k, 3, none⟩ = some (.slice xa xn xc) := cell_of_row _ _ 3 _ _ _ hc1'
  have q0 : W0.cell? ⟨k + 1, 0, none⟩ = some (.string (bstr yl)) := cell_of_row _ _ 0 _ _ _ hc2
  have q1 : W0.cell? ⟨k + 1, 1, none⟩ = some (.int .i64 yb) := cell_of_row _ _ 1 _ _ _ hc2
  have q2 : W0.cell? ⟨k + 1, 2, none⟩ = some (.int .i64 ye) := cell_of_row _ _ 2 _ _ _ hc2
  have q3 : W0.cell? ⟨k + 1, 3, none⟩ = some (.slice ya yn yc) := cell_of_row _ _ 3 _ _ _ hc2
  have HB := hide hb2
  have HX := hide (hx1.below hb2)
  have HY := hide (hy1.below hb2)
  have HS := hide (fun b (wx : World) => sign_any b wx)
  have HM := hide (fun S T (wx : World) => cmp_any S T wx)
  have HP := hide (And.intro p3 q3)
  clear hb1 hb2 hc1 hc2 hc1' hx1 hy1
  go_enter Tryz.func86, Tryz.ntmps86
  have HE : Hid (Below w.heap.size w ((w.alloc (.cells #[.string (bstr xl), .int .i64 xb, .int .i64 xe, .slice xa xn xc] 76 (0, 0))).alloc (.cells #[.string (bstr yl), .int .i64 yb, .int .i64 ye, .slice ya yn yc] 76 (0, 0)))) := hide (by rw [← hW0]; exact HB.out)
  rcases h1 : (xb != yb) with _ | _
  case true =>
    clear p0 p1 p2 p3 q0 q1 q2 q3
    go_wp2_with fail
    refine (sign_any _ _).mono ?_
    rintro e w' ⟨⟨v, rfl⟩, rfl⟩
    go_wp2
    go_ret
    exact ⟨_, rfl, HE.out⟩
  have h1' : xb = yb := by simpa using h1
  subst h1'
  rcases h2 : (xe != ye) with _ | _
  case true =>
    clear p0 p1 p2 p3 q0 q1 q2 q3
    go_wp2_with fail
    refine (sign_any _ _).mono ?_
    rintro e w' ⟨⟨v, rfl⟩, rfl⟩
    go_wp2
    go_ret
    exact ⟨_, rfl, HE.out⟩
  have h2' : xe = ye := by simpa using h2
  subst h2'
  by_cases h3 : xl = yl
  case neg =>
    have h3' : (xl == yl) = false := by rw [beq_eq_false_iff_ne]; exact h3
    clear p0 p1 p2 p3 q0 q1 q2 q3
    go_wp2_with fail
    refine (cmp_any _ _ _).mono ?_
    rintro e w' ⟨⟨v, rfl⟩, rfl⟩
    go_wp2
    go_ret
    exact ⟨_, rfl, HE.out⟩
  subst h3
  go_wp2_with fail
  rw [← hW0, ← hk]
  clear hW0 HE p0 p1 p2 p3 q0 q1 q2 q3 h1 h2 hk
  go_loopw [5] (fun kv wr => ∃ (j : Nat), kv = .int .i64 (j : Int) ∧ j ≤ xn ∧ j ≤ yn ∧ Hid (Below W0.heap.size W0 wr)) (fun kv _ => xn - (intOf kv).toNat)
  case atStart => exact ⟨0, rfl, Nat.zero_le _, Nat.zero_le _, hide (bl_refl W0)⟩
  case round =>
    obtain ⟨j, rfl, hjx, hjy, HBj⟩ := hrel
    have HBB := hide (HB.out.trans (HBj.out.mono HB.out.size))
    have p3 := (HBj.out.cell (lt_heap HP.out.1)).trans HP.out.1
    have q3 := (HBj.out.cell (lt_heap HP.out.2)).trans HP.out.2
    by_cases hj1 : j < xn
    · have hj1' : (j : Int) < (xn : Int) := by omega
      by_cases hj2 : j < yn
      · have hj2' : (j : Int) < (yn : Int) := by omega
        obtain ⟨b1, o1, ⟨pn, pv⟩, rfl, hbl1, hx1, e0, e1⟩ := (HX.out.below HBj.out).at_ hj1
        obtain ⟨b2, o2, ⟨qn, qv⟩, rfl, hbl2, hx2, f0, f1⟩ := (HY.out.below HBj.out).at_ hj2
        simp only at e0 e1 f0 f1
        have HCF : Hid (∀ wx, Below wr.heap.size wr wx → wx.cell? ⟨k, 3, none⟩ = some (.slice (some ⟨b1, o1, none⟩) xn xc) ∧ wx.cell? ⟨k + 1, 3, none⟩ = some (.slice (some ⟨b2, o2, none⟩) yn yc) ∧ wx.cell? ⟨b1, o1 + j * 2, none⟩ = some (.string (bstr pn)) ∧ wx.cell? ⟨b1, o1 + j * 2 + 1, none⟩ = some (.string (bstr pv)) ∧ wx.cell? ⟨b2, o2 + j * 2, none⟩ = some (.string (bstr qn)) ∧ wx.cell? ⟨b2, o2 + j * 2 + 1, none⟩ = some (.string (bstr qv))) := hide (fun wx h => ⟨(h.cell (lt_heap p3)).trans p3, (h.cell (lt_heap q3)).trans q3, (h.cell (lt_heap e0)).trans e0, (h.cell (lt_heap e1)).trans e1, (h.cell (lt_heap f0)).trans f0, (h.cell (lt_heap f1)).trans f1⟩)
        clear hx1 hx2 e0 e1 f0 f1 hbl1 hbl2
        go_wp2_with fail
        refine wp_region_K 12 (by kernel_rfl) (by kernel_rfl) (fun Q HQ => ?_)
        simp only [List.take_succ_cons, List.take_zero, List.map_cons, List.map_nil]
        repeat
          first | apply wpS_c rfl | apply wpS_gc rfl (guard_mk rfl rfl)
          focus
            intro ev wx hC hx
            (try simp [Op.operands, Call.operands, opndS, Slot.holds] at hx)
            obtain ⟨k0, k1, k2, k3, k4, k5⟩ := HCF.out wx (hC.below)
            go_simp
            try (first | exact rfl | exact ⟨Below.refl _ _, rfl⟩)
            done
          dsimp only [setS, List.set]
        refine wpS_nil (HQ _ fun w6 hC6 => ?_)
        simp only [closeS, List.drop_succ_cons, List.drop_zero, List.drop_nil]
        have Hw6 := hide (hC6.below)
        clear HQ hC6
        by_cases h5 : pn = qn
        · subst h5
          go_wp2_with fail
          refine wp_region_K 12 (by kernel_rfl) (by kernel_rfl) (fun Q HQ => ?_)
          simp only [List.take_succ_cons, List.take_zero, List.map_cons, List.map_nil]
          repeat
            first | apply wpS_c rfl | apply wpS_gc rfl (guard_mk rfl rfl)
            focus
              intro ev wx hC hx
              (try simp [Op.operands, Call.operands, opndS, Slot.holds] at hx)
              obtain ⟨k0, k1, k2, k3, k4, k5⟩ := HCF.out wx (Hw6.out.trans (hC.below.mono Hw6.out.size))
              go_simp
              try (first | exact rfl | exact ⟨Below.refl _ _, rfl⟩)
              done
            dsimp only [setS, List.set]
          refine wpS_nil (HQ _ fun w8 hC6 => ?_)
          simp only [closeS, List.drop_succ_cons, List.drop_zero, List.drop_nil]
          have Hw8 := hide (Hw6.out.trans (hC6.below.mono Hw6.out.size))
          clear HQ hC6
          by_cases h6 : pv = qv
          · subst h6
            have HE8 := hide (HBj.out.trans (Hw8.out.mono HBj.out.size))
            go_wp2
            go_roundw
            case rel => exact ⟨j + 1, by go_num, by omega, by omega, HE8⟩
            case measure => simp [intOf]; omega
          · have h6' : (pv == qv) = false := by rw [beq_eq_false_iff_ne]; exact h6
            go_wp2_with fail
            refine wp_region_K 12 (by kernel_rfl) (by kernel_rfl) (fun Q HQ => ?_)
            simp only [List.take_succ_cons, List.take_zero, List.map_cons, List.map_nil]
            repeat
              first | apply wpS_c rfl | apply wpS_gc rfl (guard_mk rfl rfl)
              focus
                intro ev wx hC hx
                (try simp [Op.operands, Call.operands, opndS, Slot.holds] at hx)
                obtain ⟨k0, k1, k2, k3, k4, k5⟩ := HCF.out wx (Hw8.out.trans (hC.below.mono Hw8.out.size))
                go_simp
                try (first | exact rfl | exact ⟨Below.refl _ _, rfl⟩)
                done
              dsimp only [setS, List.set]
            refine wpS_nil (HQ _ fun w7 hC6 => ?_)
            simp only [closeS, List.drop_succ_cons, List.drop_zero, List.drop_nil]
            have Hw7 := hide (Hw8.out.trans (hC6.below.mono Hw8.out.size))
            clear HQ hC6
            go_wp2_with fail
            refine (cmp_any _ _ _).mono ?_
            rintro e w' ⟨⟨v, rfl⟩, rfl⟩
            have HBR := hide (HBB.out.trans (Hw7.out.mono HBB.out.size))
            go_wp2
            go_ret
            exact ⟨_, rfl, HBR.out⟩
        · have h5' : (pn == qn) = false := by rw [beq_eq_false_iff_ne]; exact h5
          go_wp2_with fail
          refine wp_region_K 12 (by kernel_rfl) (by kernel_rfl) (fun Q HQ => ?_)
          simp only [List.take_succ_cons, List.take_zero, List.map_cons, List.map_nil]
          repeat
            first | apply wpS_c rfl | apply wpS_gc rfl (guard_mk rfl rfl)
            focus
              intro ev wx hC hx
              (try simp [Op.operands, Call.operands, opndS, Slot.holds] at hx)
              obtain ⟨k0, k1, k2, k3, k4, k5⟩ := HCF.out wx (Hw6.out.trans (hC.below.mono Hw6.out.size))
              go_simp
              try (first | exact rfl | exact ⟨Below.refl _ _, rfl⟩)
              done
            dsimp only [setS, List.set]
          refine wpS_nil (HQ _ fun w7 hC6 => ?_)
          simp only [closeS, List.drop_succ_cons, List.drop_zero, List.drop_nil]
          have Hw7 := hide (Hw6.out.trans (hC6.below.mono Hw6.out.size))
          clear HQ hC6
          go_wp2_with fail
          refine (cmp_any _ _ _).mono ?_
          rintro e w' ⟨⟨v, rfl⟩, rfl⟩
          have HBR := hide (HBB.out.trans (Hw7.out.mono HBB.out.size))
          go_wp2
          go_ret
          exact ⟨_, rfl, HBR.out⟩
      · have hj2' : ¬ (j : Int) < (yn : Int) := by omega
        rcases h4 : ((xn : Int) != (yn : Int)) with _ | _
        · go_wp2
          go_ret
          exact ⟨_, rfl, HBB.out⟩
        · skip
          go_wp2_with fail
          refine (sign_any _ _).mono ?_
          rintro e w' ⟨⟨v, rfl⟩, rfl⟩
          go_wp2
          go_ret
          exact ⟨_, rfl, HBB.out⟩
    · have hj1' : ¬ (j : Int) < (xn : Int) := by omega
      rcases h4 : ((xn : Int) != (yn : Int)) with _ | _
      · go_wp2
        go_ret
        exact ⟨_, rfl, HBB.out⟩
      · skip
        go_wp2_with fail
        refine (sign_any _ _).mono ?_
        rintro e w' ⟨⟨v, rfl⟩, rfl⟩
        go_wp2
        go_ret
        exact ⟨_, rfl, HBB.out⟩
end Go.Proofs.YtbpkclopcoaikaaGreatDoor
namespace Go.Proofs.YtbpkclopcoaikaaGreatDoor
open Go.RowKit
set_option linter.unusedVariables false
set_option linter.unusedSimpArgs false
/-- What is known of node i when it has no error. -/
structure NOk (l : List Nd) (X : List Tx) (i : Nat) (x : Nd) : Prop where
  nm : nameB x.lab = true
  ne : x.b < x.e
  wi : ∃ t ∈ X, t.b ≤ x.b ∧ x.e ≤ t.e
  pre : x.p = -1 ∨ ∃ k j : Nat, x.p = (k : Int) ∧ i = j + 1 ∧ AncS (l.map Nd.p) k j
  inn : ∀ (k : Nat) (y : Nd), x.p = (k : Int) → l[k]? = some y → y.b ≤ x.b ∧ x.e ≤ y.e
  sis : ∀ (s : Nat) (y : Nd), s < i → l[s]? = some y → y.p = x.p → (∀ (m : Nat) (z : Nd), s < m → m < i → l[m]? = some z → z.p ≠ x.p) → y.e ≤ x.b
def NodesOk (l : List Nd) (X : List Tx) : Prop := ∀ (i : Nat) (x : Nd), l[i]? = some x → NOk l X i x
def NodesP (l : List Nd) (X : List Tx) (w : World) (e : Ending) (w' : World) : Prop := ∃ x y : Int, e = .returned (.tuple #[.int .i64 x, .int .i64 y]) ∧ Below w.heap.size w w' ∧ (y = 0 → NodesOk l X)
theorem ancS_up {p : List Int} {m m' i : Nat} (h : AncS p m i) (hp : Par p m' m) : AncS p m' i := .inr (Anc.down.2 ⟨m, hp, h.imp Eq.symm id⟩)
theorem own_at_i {w : World} {base g : Nat} {e : TypeId} {n c : Nat} {z : List Int} (h : w.ownsRow base e 1 (.slice (some ⟨g, 0, none⟩) n c) n (z.map iv)) {i : Nat} {x : Int} (hx : z[i]? = some x) (hi : i < n) : w.cell? ⟨g, i, none⟩ = some (.int .i64 x) := by
  obtain ⟨⟨v1, hv, m1⟩, f1⟩ := own_at h hi
  rw [List.getElem?_map, hx] at hv
  injection hv with hv
  subst hv
  exact m1
theorem own_frz {w : World} {base g : Nat} {e : TypeId} {n c : Nat} {z : List Value} (h : w.ownsRow base e 1 (.slice (some ⟨g, 0, none⟩) n c) n z) {i : Nat} (hi : i < n) : w.frozen? ⟨g, i, none⟩ = false := (own_at h hi).2
theorem own_set_i {w : World} {base g : Nat} {e : TypeId} {n c : Nat} {z : List Int} (h : w.ownsRow base e 1 (.slice (some ⟨g, 0, none⟩) n c) n (z.map iv)) {i : Nat} (hi : i < n) (x : Int) : (w.setCell ⟨g, i, none⟩ (.int .i64 x)).ownsRow base e 1 (.slice (some ⟨g, 0, none⟩) n c) n ((z.set i x).map iv) := by
  have := own_set h hi (iv x)
  rw [← List.map_set] at this
  exact this
theorem below_block {w w' : World} {g : Nat} {o : Obj} (h : w.heap[g]? = some o) (hb : Below w.heap.size w w') : w'.heap[g]? = some o := (hb.block g (Array.getElem?_eq_some_iff.1 h).1).trans h
set_option maxHeartbeats 16000000 in
set_option maxRecDepth 100000 in
theorem nodesC_any (c : Cv) (d : Cd) (w : World) (h : IsCo w c d) (hf : CFit c) : Calls Tryz.prog 59 #[.slice c.N.a c.N.n c.N.c, c.v] w (NodesP d.N d.X w) := by
  obtain ⟨i2, hi2, hz0, hz1, hz2⟩ := info_parts info_int
  have HT := hide h.X
  have HR := hide h.N
  have hft := hf.X
  have hfr := hf.N
  clear h hf
  obtain ⟨cA, cT, ⟨aX, nX, cX⟩, cR, ⟨aN, nN, cN⟩, cH, cL⟩ := c
  simp only [big] at HT HR hft hfr ⊢
  obtain ⟨W0, hW0⟩ : ∃ W0, W0 = w.alloc (Cv.mk cA cT ⟨aX, nX, cX⟩ cR ⟨aN, nN, cN⟩ cH cL).o := ⟨_, rfl⟩
  have HB := hide (bl_alloc (bl_refl w) (Cv.mk cA cT ⟨aX, nX, cX⟩ cR ⟨aN, nN, cN⟩ cH cL).o)
  have HC := hide (CCells.new w (Cv.mk cA cT ⟨aX, nX, cX⟩ cR ⟨aN, nN, cN⟩ cH cL))
  rw [← hW0] at HB HC
  have HT0 := hide (HT.out.below HB.out)
  have HR0 := hide (HR.out.below HB.out)
  have HE0 : Hid (Below w.heap.size w (w.alloc (Cv.mk cA cT ⟨aX, nX, cX⟩ cR ⟨aN, nN, cN⟩ cH cL).o)) := hide (bl_alloc (bl_refl w) _)
  generalize d.X = X at *
  generalize d.N = l at *
  have HWI : Hid (∀ (b0 e0 : Int) (wx : World), Below W0.heap.size W0 wx → Calls Tryz.prog 85 #[(Cv.mk cA cT ⟨aX, nX, cX⟩ cR ⟨aN, nN, cN⟩ cH cL).v, .int .i64 b0, .int .i64 e0] wx fun e w' => ∃ b : Bool, e = .returned (.bool b) ∧ Below wx.heap.size wx w' ∧ (b = true → b0 < e0 ∧ ∃ t ∈ X, t.b ≤ b0 ∧ e0 ≤ t.e)) := hide (fun b0 e0 wx hwx => within_any (Cv.mk cA cT ⟨aX, nX, cX⟩ cR ⟨aN, nN, cN⟩ cH cL) X b0 e0 wx (HT0.out.below hwx) (by simp only [big]; omega))
  go_enter Tryz.func59, Tryz.ntmps59
  by_cases h64 : 2048 < nN
  · have h64' : (2048 : Int) < (nN : Int) := by omega
    clear hW0
    go_wp2
    go_ret2
    exact ⟨_, _, rfl, HE0.out, fun h => by simp at h⟩
  have h64' : ¬ (2048 : Int) < (nN : Int) := by omega
  go_wp2_with (at_make; rw [← hW0]; go_loud (refine wpList_make_full _ rfl (.tmp 16) (.tmp 16) 27 rfl W0.heap.size 3 i2 _ 1 Tryz.underlying27 hi2 hz0 hz1 .i64 .i64 _ _ nN rfl rfl rfl rfl (by rw [hz2]; omega) (by simp only [maxLen]; omega) (Nat.le_refl _) ?_); intro w2 hown hg1; rw [made_one _ rfl] at hown; have hb2 : Below W0.heap.size W0 w2 := bl_grown (bl_refl W0) hg1 (fun k h => by cases h); have HO := hide hown; have HBm := hide hb2; clear hown hg1 hb2 hW0 HE0)
  have HO := hide (show w2.ownsRow W0.heap.size 3 1 (.slice (some ⟨W0.heap.size, 0, none⟩) nN nN) nN ((List.replicate nN (0 : Int)).map iv) by rw [List.map_replicate]; exact HO.out)
  obtain ⟨r0, hr0⟩ : ∃ g, g = W0.heap.size := ⟨_, rfl⟩
  have HZ0 := hide (show (List.replicate nN (0 : Int)).length = nN by simp)
  generalize List.replicate nN (0 : Int) = z0 at *
  rw [← hr0] at HO ⊢
  have HR0E := hide hr0
  clear hr0
  go_wp2_with fail
  go_loopw [20] (fun kv wr => ∃ (k : Nat) (z : List Int), kv = .int .i64 (k : Int) ∧ k ≤ nN ∧ Hid (z.length = nN) ∧ Hid (∀ (i : Nat) (x : Nd), i < k → l[i]? = some x → NOk l X i x) ∧ Hid (∀ (i : Nat) (x : Nd), i < k → l[i]? = some x → -1 ≤ x.p ∧ x.p < (i : Int)) ∧ Hid (wr.ownsRow r0 3 1 (.slice (some ⟨r0, 0, none⟩) nN nN) nN (z.map iv)) ∧ Hid (Below W0.heap.size W0 wr)) (fun kv _ => nN - (intOf kv).toNat)
  case atStart => exact ⟨0, z0, rfl, Nat.zero_le _, HZ0, hide (fun i x h => absurd h (Nat.not_lt_zero _)), hide (fun i x h => absurd h (Nat.not_lt_zero _)), HO, HBm⟩
  case round =>
    obtain ⟨k, z, rfl, hk, HZ, HOK, HP, HWk, HBk⟩ := hrel
    have HBB := hide (HB.out.trans (HBk.out.mono HB.out.size))
    by_cases hkn : k < nN
    · have hki : (k : Int) < (nN : Int) := by omega
      obtain ⟨b, o, ⟨xl, xb, xe, xp⟩, rfl, hbl, hx, e0, e1, e2, e3⟩ := (HR0.out.below HBk.out).at_ hkn
      simp only at e0 e1 e2 e3
      obtain ⟨g, hg⟩ : ∃ g, g = wr.heap.size := ⟨_, rfl⟩
      obtain ⟨W2, hW2⟩ : ∃ W2, W2 = wr.alloc (.cells #[.string (bstr xl), .int .i64 xb, .int .i64 xe, .int .i64 xp] 33 (0, 0)) := ⟨_, rfl⟩
      have hb2 := bl_alloc HBk.out (.cells #[.string (bstr xl), .int .i64 xb, .int .i64 xe, .int .i64 xp] 33 (0, 0))
      have hnw := heap_alloc_new wr (.cells #[.string (bstr xl), .int .i64 xb, .int .i64 xe, .int .i64 xp] 33 (0, 0))
      have hrow := own_below HWk.out (bl_alloc (bl_refl wr) (.cells #[.string (bstr xl), .int .i64 xb, .int .i64 xe, .int .i64 xp] 33 (0, 0)))
      rw [← hW2] at hb2 hnw hrow
      rw [← hg] at hnw
      have HB2 := hide hb2
      have HG2 := hide hnw
      have HW2 := hide hrow
      have HX := hide hx
      have HBW := hide (HB.out.trans (hb2.mono HB.out.size))
      have HBN : Hid (Below w.heap.size w (wr.alloc (.cells #[.string (bstr xl), .int .i64 xb, .int .i64 xe, .int .i64 xp] 33 (0, 0)))) := hide (by rw [← hW2]; exact HBW.out)
      have HGR := hide (show g ≠ r0 by have h : r0 < wr.heap.size := (ownG_lt HWk.out rfl).2; omega)
      clear hb2 hnw hrow hx
      rcases hnb : nameB xl with _ | _
      · have HF : Hid (∀ wx, Calls Tryz.prog 82 #[.string (bstr xl)] wx fun e w' => e = .returned (.bool false) ∧ wx = w') := hide (fun wx => hnb ▸ rname_any xl wx)
        clear hnb hW2
        go_wp2_with fail
        refine (HF.out _).mono ?_
        rintro e w' ⟨rfl, rfl⟩
        go_wp2
        go_ret2
        exact ⟨_, _, rfl, HBN.out, fun h => by simp at h⟩
      · have HF : Hid (∀ wx, Calls Tryz.prog 82 #[.string (bstr xl)] wx fun e w' => e = .returned (.bool true) ∧ wx = w') := hide (fun wx => hnb ▸ rname_any xl wx)
        have HNM := hide hnb
        clear hnb
        go_wp2_with fail
        refine (HF.out _).mono ?_
        rintro e w' ⟨rfl, rfl⟩
        rw [← hg, ← hW2]
        obtain ⟨s0, s1, s2, s3, s4, s5, s6⟩ := HC.out.below HB2.out
        simp only at s0 s1 s2 s3 s4 s5 s6
        have k1 : W2.cell? ⟨g, 1, none⟩ = some (.int .i64 xb) := cell_of_row _ _ 1 _ _ _ HG2.out
        have k2 : W2.cell? ⟨g, 2, none⟩ = some (.int .i64 xe) := cell_of_row _ _ 2 _ _ _ HG2.out
        clear HBN HF hW2 hg e0 e1 e2 e3 hbl HBk HBB HWk
        generalize wr = w9 at *
        go_wp2_with fail
        refine (HWI.out _ _ _ HB2.out).mono ?_
        rintro e w3 ⟨b3, rfl, hb3, hwb⟩
        have HX3 := hide (HB2.out.trans (hb3.mono HB2.out.size))
        have HD3 := hide (HBW.out.trans (hb3.mono HBW.out.size))
        have HG3 := hide (below_block HG2.out hb3)
        have HW3 := hide (own_below HW2.out hb3)
        clear hb3 s0 s1 s2 s3 s4 s5 s6 k1 k2
        cases b3
        · skip
          go_wp2
          go_ret2
          exact ⟨_, _, rfl, HD3.out, fun h => by simp at h⟩
        have HWB := hide (hwb rfl)
        clear hwb
        go_wp2_with fail
        go_loopw [9] (fun qv wr => ∃ q : Int, qv = .int .i64 q ∧ -1 ≤ q ∧ q < (k : Int) ∧ Hid (∀ m : Nat, q = (m : Int) → AncS (l.map Nd.p) m (k - 1)) ∧ Hid (wr = w3)) (fun qv _ => (intOf qv + 1).toNat)
        case atStart => exact ⟨_, rfl, by omega, by omega, hide (fun m hm => .inl (by omega)), hide rfl⟩
        case round =>
          obtain ⟨q, rfl, hq0, hqk, HQA, HEQ⟩ := hrel
          obtain rfl := HEQ.out
          have k0 : wr.cell? ⟨g, 0, none⟩ = some (.string (bstr xl)) := cell_of_row _ _ 0 _ _ _ HG3.out
          have k1 : wr.cell? ⟨g, 1, none⟩ = some (.int .i64 xb) := cell_of_row _ _ 1 _ _ _ HG3.out
          have k2 : wr.cell? ⟨g, 2, none⟩ = some (.int .i64 xe) := cell_of_row _ _ 2 _ _ _ HG3.out
          have k3 : wr.cell? ⟨g, 3, none⟩ = some (.int .i64 xp) := cell_of_row _ _ 3 _ _ _ HG3.out
          by_cases hqn : q < 0
          · have hqn' : ¬ 0 ≤ q := by omega
            by_cases hp1 : xp = -1
            · have HPRE : Hid (xp = -1 ∨ ∃ k' j : Nat, xp = (k' : Int) ∧ k = j + 1 ∧ AncS (l.map Nd.p) k' j) := hide (.inl hp1)
              have HINN : Hid (∀ (m : Nat) (y : Nd), xp = (m : Int) → l[m]? = some y → y.b ≤ xb ∧ xe ≤ y.e) := hide (fun m y h _ => by omega)
              have HPK : Hid (-1 ≤ xp ∧ xp < (k : Int)) := hide (by omega)
              have hp1' : (xp != -1) = false := by rw [hp1]; rfl
              have hp2 : ¬ 0 ≤ xp := by omega
              have HX5 := HX3
              have HG5 := HG3
              have HW5 := HW3
              go_wp2_with fail
              clear k0 k1 k2 k3
              generalize wr = w5 at *
              go_loopw [11] (fun sv wr => ∃ s : Int, sv = .int .i64 s ∧ -1 ≤ s ∧ s < (k : Int) ∧ Hid (∀ (mm : Nat) (y : Nd), s < (mm : Int) → mm < k → l[mm]? = some y → y.p ≠ xp) ∧ Hid (Below w5.heap.size w5 wr)) (fun sv _ => (intOf sv + 1).toNat)
              case atStart => exact ⟨_, rfl, by omega, by omega, hide (fun m y h1 h2 => by omega), hide (bl_refl w5)⟩
              case round =>
                obtain ⟨s, rfl, hs0, hsk, HSS, HE⟩ := hrel
                have HXE := hide (HX5.out.trans (HE.out.mono HX5.out.size))
                have HBE := hide (HB.out.trans (HXE.out.mono HB.out.size))
                by_cases hs : s < 0
                · have hs' : ¬ 0 ≤ s := by omega
                  have HSIS : Hid (∀ (s : Nat) (y : Nd), s < k → l[s]? = some y → y.p = xp → (∀ (mm : Nat) (z : Nd), s < mm → mm < k → l[mm]? = some z → z.p ≠ xp) → y.e ≤ xb) := hide (fun s' y h1 h2 h3 _ => absurd h3 (HSS.out s' y (by omega) h1 h2))
                  have HX6 := hide (HX5.out.trans (HE.out.mono HX5.out.size))
                  have HG6 := hide (below_block HG5.out HE.out)
                  have HW6 := hide (own_below HW5.out HE.out)
                  obtain ⟨dv, hdv⟩ : ∃ x, z[k]? = some x := ⟨_, List.getElem?_eq_getElem (by rw [HZ.out]; exact hkn)⟩
                  have m1 := own_at_i HW6.out hdv hkn
                  have z1 := own_frz HW6.out hkn
                  have HW7 := hide (own_set_i HW6.out hkn (wrap64 (dv + 1)))
                  have m2 : (wr.setCell ⟨r0, k, none⟩ (.int .i64 (wrap64 (dv + 1)))).cell? ⟨r0, k, none⟩ = some (.int .i64 (wrap64 (dv + 1))) := own_at_i HW7.out (by rw [List.getElem?_set_self (by rw [HZ.out]; exact hkn)]) hkn
                  have HX7 := hide (HX6.out.setCell (p := ⟨r0, k, none⟩) (by rw [HR0E.out]; exact Nat.le_refl _) (.int .i64 (wrap64 (dv + 1))))
                  have HB7 := hide (HB.out.trans (HX7.out.mono HB.out.size))
                  have HZ7 := hide (show (z.set k (wrap64 (dv + 1))).length = nN by rw [List.length_set]; exact HZ.out)
                  have HOK2 : Hid (∀ (i : Nat) (x : Nd), i < k + 1 → l[i]? = some x → NOk l X i x) := hide (fun i x hi hx => by
                    rcases Nat.lt_or_ge i k with h | h
                    · exact HOK.out i x h hx
                    · obtain rfl : i = k := by omega
                      rw [HX.out] at hx
                      injection hx with hx
                      subst hx
                      exact ⟨HNM.out, HWB.out.1, HWB.out.2, HPRE.out, HINN.out, HSIS.out⟩)
                  have HP2 : Hid (∀ (i : Nat) (x : Nd), i < k + 1 → l[i]? = some x → -1 ≤ x.p ∧ x.p < (i : Int)) := hide (fun i x hi hx => by
                    rcases Nat.lt_or_ge i k with h | h
                    · exact HP.out i x h hx
                    · obtain rfl : i = k := by omega
                      rw [HX.out] at hx
                      injection hx with hx
                      subst hx
                      exact HPK.out)
                  clear hdv
                  by_cases h40 : 40 < wrap64 (dv + 1)
                  · skip
                    go_wp2
                    go_ret2
                    exact ⟨_, _, rfl, HB7.out, fun h => by simp at h⟩
                  · go_wp2
                    go_roundw
                    case rel => exact ⟨k + 1, z.set k (wrap64 (dv + 1)), by go_num, by omega, HZ7, HOK2, HP2, HW7, HX7⟩
                    case measure => simp [intOf]; omega
                · obtain ⟨q, rfl⟩ := Int.eq_ofNat_of_zero_le (show 0 ≤ s by omega)
                  have hqk : q < k := by omega
                  have hq0 : (0 : Int) ≤ (q : Int) := by omega
                  have hqi : (q : Int) < (nN : Int) := by omega
                  obtain ⟨b', o', ⟨yl, yb, ye, yp⟩, hb', hbl', hy, f0, f1, f2, f3⟩ := (HR0.out.below HXE.out).at_ (show q < nN by omega)
                  injection hb' with hb'
                  injection hb' with q1 q2
                  subst q1 q2
                  simp only at f0 f1 f2 f3
                  have HY := hide hy
                  have HF := hide (And.intro f2 f3)
                  have HGE := hide (below_block HG5.out HE.out)
                  clear hy hbl' f0 f1 f2 f3
                  go_wp2_with fail
                  refine wp_region_K 7 (by kernel_rfl) (by kernel_rfl) (fun Q HQ => ?_)
                  simp only [List.take_succ_cons, List.take_zero, List.map_cons, List.map_nil]
                  repeat
                    first | apply wpS_c rfl | apply wpS_gc rfl (guard_mk rfl rfl)
                    focus
                      intro ev wx hC hx
                      (try simp [Op.operands, Call.operands, opndS, Slot.holds] at hx)
                      have z2 := hC.cell HF.out.1
                      have z3 := hC.cell HF.out.2
                      have hgb := below_block HGE.out hC.below
                      have k1 : wx.cell? ⟨g, 1, none⟩ = some (.int .i64 xb) := cell_of_row _ _ 1 _ _ _ hgb
                      have k3 : wx.cell? ⟨g, 3, none⟩ = some (.int .i64 xp) := cell_of_row _ _ 3 _ _ _ hgb
                      clear hgb
                      go_simp
                      try (first | exact rfl | exact ⟨Below.refl _ _, rfl⟩)
                      done
                    dsimp only [setS, List.set]
                  refine wpS_nil (HQ _ fun w6 hC6 => ?_)
                  simp only [closeS, List.drop_succ_cons, List.drop_zero, List.drop_nil]
                  have HE := hide (HE.out.trans (hC6.below.mono HE.out.size))
                  have HXE := hide (HX5.out.trans (HE.out.mono HX5.out.size))
                  have HGE := hide (below_block HG5.out HE.out)
                  have HF := hide (And.intro ((hC6.below.cell (lt_heap HF.out.1)).trans HF.out.1) ((hC6.below.cell (lt_heap HF.out.2)).trans HF.out.2))
                  clear HQ hC6
                  generalize wr = wo at *
                  generalize w6 = wr at *
                  by_cases hyp : yp = xp
                  · have hyp' : (yp == xp) = true := by rw [beq_iff_eq]; exact hyp
                    go_wp2_with fail
                    refine wp_region_K 7 (by kernel_rfl) (by kernel_rfl) (fun Q HQ => ?_)
                    simp only [List.take_succ_cons, List.take_zero, List.map_cons, List.map_nil]
                    repeat
                      first | apply wpS_c rfl | apply wpS_gc rfl (guard_mk rfl rfl)
                      focus
                        intro ev wx hC hx
                        (try simp [Op.operands, Call.operands, opndS, Slot.holds] at hx)
                        have z2 := hC.cell HF.out.1
                        have z3 := hC.cell HF.out.2
                        have hgb := below_block HGE.out hC.below
                        have k1 : wx.cell? ⟨g, 1, none⟩ = some (.int .i64 xb) := cell_of_row _ _ 1 _ _ _ hgb
                        have k3 : wx.cell? ⟨g, 3, none⟩ = some (.int .i64 xp) := cell_of_row _ _ 3 _ _ _ hgb
                        clear hgb
                        go_simp
                        try (first | exact rfl | exact ⟨Below.refl _ _, rfl⟩)
                        done
                      dsimp only [setS, List.set]
                    refine wpS_nil (HQ _ fun w6 hC6 => ?_)
                    simp only [closeS, List.drop_succ_cons, List.drop_zero, List.drop_nil]
                    have HE := hide (HE.out.trans (hC6.below.mono HE.out.size))
                    have HXE := hide (HX5.out.trans (HE.out.mono HX5.out.size))
                    have HBE := hide (HB.out.trans (HXE.out.mono HB.out.size))
                    clear HQ hC6 HGE HF
                    generalize wr = wo2 at *
                    generalize w6 = wr at *
                    by_cases hxy : xb < ye
                    · skip
                      go_wp2
                      go_ret2
                      exact ⟨_, _, rfl, HBE.out, fun h => by simp at h⟩
                    · have HSIS : Hid (∀ (s : Nat) (y : Nd), s < k → l[s]? = some y → y.p = xp → (∀ (mm : Nat) (z : Nd), s < mm → mm < k → l[mm]? = some z → z.p ≠ xp) → y.e ≤ xb) := hide (fun s' y h1 h2 h3 h4 => by
                        rcases Nat.lt_trichotomy s' q with h | h | h
                        · exact absurd hyp (h4 q _ h hqk HY.out)
                        · subst h
                          rw [HY.out] at h2
                          injection h2 with h2
                          subst h2
                          simp only at hxy ⊢
                          omega
                        · exact absurd h3 (HSS.out s' y (by omega) h1 h2))
                      have HX6 := hide (HX5.out.trans (HE.out.mono HX5.out.size))
                      have HG6 := hide (below_block HG5.out HE.out)
                      have HW6 := hide (own_below HW5.out HE.out)
                      obtain ⟨dv, hdv⟩ : ∃ x, z[k]? = some x := ⟨_, List.getElem?_eq_getElem (by rw [HZ.out]; exact hkn)⟩
                      have m1 := own_at_i HW6.out hdv hkn
                      have z1 := own_frz HW6.out hkn
                      have HW7 := hide (own_set_i HW6.out hkn (wrap64 (dv + 1)))
                      have m2 : (wr.setCell ⟨r0, k, none⟩ (.int .i64 (wrap64 (dv + 1)))).cell? ⟨r0, k, none⟩ = some (.int .i64 (wrap64 (dv + 1))) := own_at_i HW7.out (by rw [List.getElem?_set_self (by rw [HZ.out]; exact hkn)]) hkn
                      have HX7 := hide (HX6.out.setCell (p := ⟨r0, k, none⟩) (by rw [HR0E.out]; exact Nat.le_refl _) (.int .i64 (wrap64 (dv + 1))))
                      have HB7 := hide (HB.out.trans (HX7.out.mono HB.out.size))
                      have HZ7 := hide (show (z.set k (wrap64 (dv + 1))).length = nN by rw [List.length_set]; exact HZ.out)
                      have HOK2 : Hid (∀ (i : Nat) (x : Nd), i < k + 1 → l[i]? = some x → NOk l X i x) := hide (fun i x hi hx => by
                        rcases Nat.lt_or_ge i k with h | h
                        · exact HOK.out i x h hx
                        · obtain rfl : i = k := by omega
                          rw [HX.out] at hx
                          injection hx with hx
                          subst hx
                          exact ⟨HNM.out, HWB.out.1, HWB.out.2, HPRE.out, HINN.out, HSIS.out⟩)
                      have HP2 : Hid (∀ (i : Nat) (x : Nd), i < k + 1 → l[i]? = some x → -1 ≤ x.p ∧ x.p < (i : Int)) := hide (fun i x hi hx => by
                        rcases Nat.lt_or_ge i k with h | h
                        · exact HP.out i x h hx
                        · obtain rfl : i = k := by omega
                          rw [HX.out] at hx
                          injection hx with hx
                          subst hx
                          exact HPK.out)
                      clear hdv
                      by_cases h40 : 40 < wrap64 (dv + 1)
                      · skip
                        go_wp2
                        go_ret2
                        exact ⟨_, _, rfl, HB7.out, fun h => by simp at h⟩
                      · go_wp2
                        go_roundw
                        case rel => exact ⟨k + 1, z.set k (wrap64 (dv + 1)), by go_num, by omega, HZ7, HOK2, HP2, HW7, HX7⟩
                        case measure => simp [intOf]; omega
                  · have hyp' : (yp == xp) = false := by rw [beq_eq_false_iff_ne]; exact hyp
                    have HSS2 : Hid (∀ (mm : Nat) (y : Nd), (q : Int) - 1 < (mm : Int) → mm < k → l[mm]? = some y → y.p ≠ xp) := hide (fun mm y h1 h2 h3 => by
                      rcases Nat.lt_or_ge q mm with h | h
                      · exact HSS.out mm y (by omega) h2 h3
                      · obtain rfl : mm = q := by omega
                        rw [HY.out] at h3
                        injection h3 with h3
                        subst h3
                        exact hyp)
                    go_wp2
                    go_roundw
                    case rel => exact ⟨(q : Int) - 1, by first | rfl | go_num, by omega, by omega, HSS2, HE⟩
                    case measure => first | (simp [intOf]; done) | (simp [intOf]; omega)
            · have hp1' : (xp != -1) = true := by rw [bne_iff_ne]; exact hp1
              go_wp2
              go_ret2
              exact ⟨_, _, rfl, HD3.out, fun h => by simp at h⟩
          · obtain ⟨m, rfl⟩ := Int.eq_ofNat_of_zero_le (show 0 ≤ q by omega)
            have hmk : m < k := by omega
            have hmi : (m : Int) < (nN : Int) := by omega
            have hm0 : (0 : Int) ≤ (m : Int) := by omega
            have hmn : ¬ (m : Int) < 0 := by omega
            obtain ⟨b', o', ⟨yl, yb, ye, yp⟩, hb', hbl', hy, f0, f1, f2, f3⟩ := (HR0.out.below HX3.out).at_ (show m < nN by omega)
            injection hb' with hb'
            injection hb' with q1 q2
            subst q1 q2
            simp only at f0 f1 f2 f3
            have HY := hide hy
            have HYP := hide (HP.out m _ hmk hy)
            clear hy
            by_cases hmx : (m : Int) = xp
            · have hmx' : ((m : Int) != xp) = false := by simp [hmx]
              subst hmx
              have HPRE : Hid ((m : Int) = -1 ∨ ∃ k' j : Nat, (m : Int) = (k' : Int) ∧ k = j + 1 ∧ AncS (l.map Nd.p) k' j) := hide (.inr ⟨m, k - 1, rfl, by omega, HQA.out m rfl⟩)
              have HPK : Hid (-1 ≤ (m : Int) ∧ (m : Int) < (k : Int)) := hide (by omega)
              have hb4 := bl_alloc (bl_refl wr) (.cells #[.string (bstr yl), .int .i64 yb, .int .i64 ye, .int .i64 yp] 33 (0, 0))
              have HG4 := hide (below_block HG3.out hb4)
              have HW4 := hide (own_below HW3.out hb4)
              have HX4 := hide (HX3.out.trans (hb4.mono HX3.out.size))
              have HD4 := hide (HD3.out.trans (hb4.mono HD3.out.size))
              clear k0 k1 k2 k3 hb4
              have k1 : wr.cell? ⟨g, 1, none⟩ = some (.int .i64 xb) := cell_of_row _ _ 1 _ _ _ HG3.out
              have k3 : wr.cell? ⟨g, 3, none⟩ = some (.int .i64 (m : Int)) := cell_of_row _ _ 3 _ _ _ HG3.out
              have k1' : (wr.alloc (.cells #[.string (bstr yl), .int .i64 yb, .int .i64 ye, .int .i64 yp] 33 (0, 0))).cell? ⟨g, 1, none⟩ = some (.int .i64 xb) := cell_of_row _ _ 1 _ _ _ HG4.out
              have k2' : (wr.alloc (.cells #[.string (bstr yl), .int .i64 yb, .int .i64 ye, .int .i64 yp] 33 (0, 0))).cell? ⟨g, 2, none⟩ = some (.int .i64 xe) := cell_of_row _ _ 2 _ _ _ HG4.out
              have k3' : (wr.alloc (.cells #[.string (bstr yl), .int .i64 yb, .int .i64 ye, .int .i64 yp] 33 (0, 0))).cell? ⟨g, 3, none⟩ = some (.int .i64 (m : Int)) := cell_of_row _ _ 3 _ _ _ HG4.out
              by_cases hb1 : xb < yb
              · skip
                go_wp2
                go_ret2
                exact ⟨_, _, rfl, HD4.out, fun h => by simp at h⟩
              by_cases hb2 : ye < xe
              · skip
                go_wp2
                go_ret2
                exact ⟨_, _, rfl, HD4.out, fun h => by simp at h⟩
              have HINN : Hid (∀ (m' : Nat) (y : Nd), (m : Int) = (m' : Int) → l[m']? = some y → y.b ≤ xb ∧ xe ≤ y.e) := hide (fun m' y h1 h2 => by
                obtain rfl : m = m' := by omega
                rw [HY.out] at h2
                injection h2 with h2
                subst h2
                simp only
                omega)
              obtain ⟨dm, hdm⟩ : ∃ x, z[m]? = some x := ⟨_, List.getElem?_eq_getElem (by rw [HZ.out]; omega)⟩
              have m1' := own_at_i HW4.out hdm (show m < nN by omega)
              obtain ⟨dk, hdk⟩ : ∃ x, z[k]? = some x := ⟨_, List.getElem?_eq_getElem (by rw [HZ.out]; omega)⟩
              have m2' := own_at_i HW4.out hdk hkn
              have z2' := own_frz HW4.out hkn
              have HW5 := hide (own_set_i HW4.out hkn dm)
              have HX5 := hide (HX4.out.setCell (p := ⟨r0, k, none⟩) (by rw [HR0E.out]; exact Nat.le_refl _) (.int .i64 dm))
              have HG5 := hide ((heap_setCell_other _ ⟨r0, k, none⟩ g (.int .i64 dm) HGR.out).trans HG4.out)
              have HZ := hide (show (z.set k dm).length = nN by rw [List.length_set]; exact HZ.out)
              clear hdm hdk hmx' HQA HW4 HX4 HG4 HD4
              have HSU : Hid (z.set k dm = z.set k dm) := hide rfl
              generalize z.set k dm = z at *
              go_wp2_with fail
              clear k1 k3 k1' k2' k3' m1' m2' z2'
              generalize ((wr.alloc (.cells #[.string (bstr yl), .int .i64 yb, .int .i64 ye, .int .i64 yp] 33 (0, 0))).setCell ⟨r0, k, none⟩ (.int .i64 dm)) = w5 at *
              go_loopw [11] (fun sv wr => ∃ s : Int, sv = .int .i64 s ∧ -1 ≤ s ∧ s < (k : Int) ∧ Hid (∀ (mm : Nat) (y : Nd), s < (mm : Int) → mm < k → l[mm]? = some y → y.p ≠ (m : Int)) ∧ Hid (Below w5.heap.size w5 wr)) (fun sv _ => (intOf sv + 1).toNat)
              case atStart => exact ⟨_, rfl, by omega, by omega, hide (fun m y h1 h2 => by omega), hide (bl_refl w5)⟩
              case round =>
                obtain ⟨s, rfl, hs0, hsk, HSS, HE⟩ := hrel
                have HXE := hide (HX5.out.trans (HE.out.mono HX5.out.size))
                have HBE := hide (HB.out.trans (HXE.out.mono HB.out.size))
                by_cases hs : s < 0
                · have hs' : ¬ 0 ≤ s := by omega
                  have HSIS : Hid (∀ (s : Nat) (y : Nd), s < k → l[s]? = some y → y.p = (m : Int) → (∀ (mm : Nat) (z : Nd), s < mm → mm < k → l[mm]? = some z → z.p ≠ (m : Int)) → y.e ≤ xb) := hide (fun s' y h1 h2 h3 _ => absurd h3 (HSS.out s' y (by omega) h1 h2))
                  have HX6 := hide (HX5.out.trans (HE.out.mono HX5.out.size))
                  have HG6 := hide (below_block HG5.out HE.out)
                  have HW6 := hide (own_below HW5.out HE.out)
                  obtain ⟨dv, hdv⟩ : ∃ x, z[k]? = some x := ⟨_, List.getElem?_eq_getElem (by rw [HZ.out]; exact hkn)⟩
                  have m1 := own_at_i HW6.out hdv hkn
                  have z1 := own_frz HW6.out hkn
                  have HW7 := hide (own_set_i HW6.out hkn (wrap64 (dv + 1)))
                  have m2 : (wr.setCell ⟨r0, k, none⟩ (.int .i64 (wrap64 (dv + 1)))).cell? ⟨r0, k, none⟩ = some (.int .i64 (wrap64 (dv + 1))) := own_at_i HW7.out (by rw [List.getElem?_set_self (by rw [HZ.out]; exact hkn)]) hkn
                  have HX7 := hide (HX6.out.setCell (p := ⟨r0, k, none⟩) (by rw [HR0E.out]; exact Nat.le_refl _) (.int .i64 (wrap64 (dv + 1))))
                  have HB7 := hide (HB.out.trans (HX7.out.mono HB.out.size))
                  have HZ7 := hide (show (z.set k (wrap64 (dv + 1))).length = nN by rw [List.length_set]; exact HZ.out)
                  have HOK2 : Hid (∀ (i : Nat) (x : Nd), i < k + 1 → l[i]? = some x → NOk l X i x) := hide (fun i x hi hx => by
                    rcases Nat.lt_or_ge i k with h | h
                    · exact HOK.out i x h hx
                    · obtain rfl : i = k := by omega
                      rw [HX.out] at hx
                      injection hx with hx
                      subst hx
                      exact ⟨HNM.out, HWB.out.1, HWB.out.2, HPRE.out, HINN.out, HSIS.out⟩)
                  have HP2 : Hid (∀ (i : Nat) (x : Nd), i < k + 1 → l[i]? = some x → -1 ≤ x.p ∧ x.p < (i : Int)) := hide (fun i x hi hx => by
                    rcases Nat.lt_or_ge i k with h | h
                    · exact HP.out i x h hx
                    · obtain rfl : i = k := by omega
                      rw [HX.out] at hx
                      injection hx with hx
                      subst hx
                      exact HPK.out)
                  clear hdv
                  by_cases h40 : 40 < wrap64 (dv + 1)
                  · skip
                    go_wp2
                    go_ret2
                    exact ⟨_, _, rfl, HB7.out, fun h => by simp at h⟩
                  · go_wp2
                    go_roundw
                    case rel => exact ⟨k + 1, z.set k (wrap64 (dv + 1)), by go_num, by omega, HZ7, HOK2, HP2, HW7, HX7⟩
                    case measure => simp [intOf]; omega
                · obtain ⟨q, rfl⟩ := Int.eq_ofNat_of_zero_le (show 0 ≤ s by omega)
                  have hqk : q < k := by omega
                  have hq0 : (0 : Int) ≤ (q : Int) := by omega
                  have hqi : (q : Int) < (nN : Int) := by omega
                  obtain ⟨b', o', ⟨yl, yb, ye, yp⟩, hb', hbl', hy, f0, f1, f2, f3⟩ := (HR0.out.below HXE.out).at_ (show q < nN by omega)
                  injection hb' with hb'
                  injection hb' with q1 q2
                  subst q1 q2
                  simp only at f0 f1 f2 f3
                  have HY := hide hy
                  have HF := hide (And.intro f2 f3)
                  have HGE := hide (below_block HG5.out HE.out)
                  clear hy hbl' f0 f1 f2 f3
                  go_wp2_with fail
                  refine wp_region_K 7 (by kernel_rfl) (by kernel_rfl) (fun Q HQ => ?_)
                  simp only [List.take_succ_cons, List.take_zero, List.map_cons, List.map_nil]
                  repeat
                    first | apply wpS_c rfl | apply wpS_gc rfl (guard_mk rfl rfl)
                    focus
                      intro ev wx hC hx
                      (try simp [Op.operands, Call.operands, opndS, Slot.holds] at hx)
                      have z2 := hC.cell HF.out.1
                      have z3 := hC.cell HF.out.2
                      have hgb := below_block HGE.out hC.below
                      have k1 : wx.cell? ⟨g, 1, none⟩ = some (.int .i64 xb) := cell_of_row _ _ 1 _ _ _ hgb
                      have k3 : wx.cell? ⟨g, 3, none⟩ = some (.int .i64 (m : Int)) := cell_of_row _ _ 3 _ _ _ hgb
                      clear hgb
                      go_simp
                      try (first | exact rfl | exact ⟨Below.refl _ _, rfl⟩)
                      done
                    dsimp only [setS, List.set]
                  refine wpS_nil (HQ _ fun w6 hC6 => ?_)
                  simp only [closeS, List.drop_succ_cons, List.drop_zero, List.drop_nil]
                  have HE := hide (HE.out.trans (hC6.below.mono HE.out.size))
                  have HXE := hide (HX5.out.trans (HE.out.mono HX5.out.size))
                  have HGE := hide (below_block HG5.out HE.out)
                  have HF := hide (And.intro ((hC6.below.cell (lt_heap HF.out.1)).trans HF.out.1) ((hC6.below.cell (lt_heap HF.out.2)).trans HF.out.2))
                  clear HQ hC6
                  generalize wr = wo at *
                  generalize w6 = wr at *
                  by_cases hyp : yp = (m : Int)
                  · have hyp' : (yp == (m : Int)) = true := by rw [beq_iff_eq]; exact hyp
                    go_wp2_with fail
                    refine wp_region_K 7 (by kernel_rfl) (by kernel_rfl) (fun Q HQ => ?_)
                    simp only [List.take_succ_cons, List.take_zero, List.map_cons, List.map_nil]
                    repeat
                      first | apply wpS_c rfl | apply wpS_gc rfl (guard_mk rfl rfl)
                      focus
                        intro ev wx hC hx
                        (try simp [Op.operands, Call.operands, opndS, Slot.holds] at hx)
                        have z2 := hC.cell HF.out.1
                        have z3 := hC.cell HF.out.2
                        have hgb := below_block HGE.out hC.below
                        have k1 : wx.cell? ⟨g, 1, none⟩ = some (.int .i64 xb) := cell_of_row _ _ 1 _ _ _ hgb
                        have k3 : wx.cell? ⟨g, 3, none⟩ = some (.int .i64 (m : Int)) := cell_of_row _ _ 3 _ _ _ hgb
                        clear hgb
                        go_simp
                        try (first | exact rfl | exact ⟨Below.refl _ _, rfl⟩)
                        done
                      dsimp only [setS, List.set]
                    refine wpS_nil (HQ _ fun w6 hC6 => ?_)
                    simp only [closeS, List.drop_succ_cons, List.drop_zero, List.drop_nil]
                    have HE := hide (HE.out.trans (hC6.below.mono HE.out.size))
                    have HXE := hide (HX5.out.trans (HE.out.mono HX5.out.size))
                    have HBE := hide (HB.out.trans (HXE.out.mono HB.out.size))
                    clear HQ hC6 HGE HF
                    generalize wr = wo2 at *
                    generalize w6 = wr at *
                    by_cases hxy : xb < ye
                    · skip
                      go_wp2
                      go_ret2
                      exact ⟨_, _, rfl, HBE.out, fun h => by simp at h⟩
                    · have HSIS : Hid (∀ (s : Nat) (y : Nd), s < k → l[s]? = some y → y.p = (m : Int) → (∀ (mm : Nat) (z : Nd), s < mm → mm < k → l[mm]? = some z → z.p ≠ (m : Int)) → y.e ≤ xb) := hide (fun s' y h1 h2 h3 h4 => by
                        rcases Nat.lt_trichotomy s' q with h | h | h
                        · exact absurd hyp (h4 q _ h hqk HY.out)
                        · subst h
                          rw [HY.out] at h2
                          injection h2 with h2
                          subst h2
                          simp only at hxy ⊢
                          omega
                        · exact absurd h3 (HSS.out s' y (by omega) h1 h2))
                      have HX6 := hide (HX5.out.trans (HE.out.mono HX5.out.size))
                      have HG6 := hide (below_block HG5.out HE.out)
                      have HW6 := hide (own_below HW5.out HE.out)
                      obtain ⟨dv, hdv⟩ : ∃ x, z[k]? = some x := ⟨_, List.getElem?_eq_getElem (by rw [HZ.out]; exact hkn)⟩
                      have m1 := own_at_i HW6.out hdv hkn
                      have z1 := own_frz HW6.out hkn
                      have HW7 := hide (own_set_i HW6.out hkn (wrap64 (dv + 1)))
                      have m2 : (wr.setCell ⟨r0, k, none⟩ (.int .i64 (wrap64 (dv + 1)))).cell? ⟨r0, k, none⟩ = some (.int .i64 (wrap64 (dv + 1))) := own_at_i HW7.out (by rw [List.getElem?_set_self (by rw [HZ.out]; exact hkn)]) hkn
                      have HX7 := hide (HX6.out.setCell (p := ⟨r0, k, none⟩) (by rw [HR0E.out]; exact Nat.le_refl _) (.int .i64 (wrap64 (dv + 1))))
                      have HB7 := hide (HB.out.trans (HX7.out.mono HB.out.size))
                      have HZ7 := hide (show (z.set k (wrap64 (dv + 1))).length = nN by rw [List.length_set]; exact HZ.out)
                      have HOK2 : Hid (∀ (i : Nat) (x : Nd), i < k + 1 → l[i]? = some x → NOk l X i x) := hide (fun i x hi hx => by
                        rcases Nat.lt_or_ge i k with h | h
                        · exact HOK.out i x h hx
                        · obtain rfl : i = k := by omega
                          rw [HX.out] at hx
                          injection hx with hx
                          subst hx
                          exact ⟨HNM.out, HWB.out.1, HWB.out.2, HPRE.out, HINN.out, HSIS.out⟩)
                      have HP2 : Hid (∀ (i : Nat) (x : Nd), i < k + 1 → l[i]? = some x → -1 ≤ x.p ∧ x.p < (i : Int)) := hide (fun i x hi hx => by
                        rcases Nat.lt_or_ge i k with h | h
                        · exact HP.out i x h hx
                        · obtain rfl : i = k := by omega
                          rw [HX.out] at hx
                          injection hx with hx
                          subst hx
                          exact HPK.out)
                      clear hdv
                      by_cases h40 : 40 < wrap64 (dv + 1)
                      · skip
                        go_wp2
                        go_ret2
                        exact ⟨_, _, rfl, HB7.out, fun h => by simp at h⟩
                      · go_wp2
                        go_roundw
                        case rel => exact ⟨k + 1, z.set k (wrap64 (dv + 1)), by go_num, by omega, HZ7, HOK2, HP2, HW7, HX7⟩
                        case measure => simp [intOf]; omega
                  · have hyp' : (yp == (m : Int)) = false := by rw [beq_eq_false_iff_ne]; exact hyp
                    have HSS2 : Hid (∀ (mm : Nat) (y : Nd), (q : Int) - 1 < (mm : Int) → mm < k → l[mm]? = some y → y.p ≠ (m : Int)) := hide (fun mm y h1 h2 h3 => by
                      rcases Nat.lt_or_ge q mm with h | h
                      · exact HSS.out mm y (by omega) h2 h3
                      · obtain rfl : mm = q := by omega
                        rw [HY.out] at h3
                        injection h3 with h3
                        subst h3
                        exact hyp)
                    go_wp2
                    go_roundw
                    case rel => exact ⟨(q : Int) - 1, by first | rfl | go_num, by omega, by omega, HSS2, HE⟩
                    case measure => first | (simp [intOf]; done) | (simp [intOf]; omega)
            · have hmx' : ((m : Int) != xp) = true := by rw [bne_iff_ne]; exact hmx
              have HQA2 : Hid (∀ m' : Nat, yp = (m' : Int) → AncS (l.map Nd.p) m' (k - 1)) := hide (fun m' h => ancS_up (HQA.out m rfl) (by unfold Par; rw [List.getElem?_map, HY.out]; simp [h]))
              have hyp := HYP.out
              simp only at hyp
              go_wp2
              go_roundw
              case rel => exact ⟨yp, rfl, by omega, by omega, HQA2, hide trivial⟩
              case measure => simp [intOf]; omega
    · obtain rfl : k = nN := by omega
      have HR' : Hid (NodesOk l X) := hide (fun i x hx => HOK.out i x (by have := (List.getElem?_eq_some_iff.1 hx).1; have := HR.out.1; omega) hx)
      clear hkn
      go_wp2
      go_ret2
      exact ⟨_, _, rfl, HBB.out, fun _ => HR'.out⟩
end Go.Proofs.YtbpkclopcoaikaaGreatDoor
namespace Go.Proofs.YtbpkclopcoaikaaGreatDoor
open Go.RowKit
set_option linter.unusedVariables false
set_option linter.unusedSimpArgs false
set_option maxHeartbeats 16000000 in
set_option maxRecDepth 100000 in
theorem regions_any (c : Cv) (d : Cd) (w : World) (h : IsCo w c d) (hf : CFit c) : Calls Tryz.prog 58 #[c.v] w (Int2P w) := by
  have HT := hide h.X
  have HR := hide h.R
  have hft := hf.X
  have hfr := hf.R
  clear h hf
  obtain ⟨cA, cT, ⟨aX, nX, cX⟩, ⟨aR, nR, cR⟩, cN, cH, cL⟩ := c
  simp only [big] at HT HR hft hfr ⊢
  obtain ⟨W0, hW0⟩ : ∃ W0, W0 = w.alloc (Cv.mk cA cT ⟨aX, nX, cX⟩ ⟨aR, nR, cR⟩ cN cH cL).o := ⟨_, rfl⟩
  have HB := hide (bl_alloc (bl_refl w) (Cv.mk cA cT ⟨aX, nX, cX⟩ ⟨aR, nR, cR⟩ cN cH cL).o)
  have HC := hide (CCells.new w (Cv.mk cA cT ⟨aX, nX, cX⟩ ⟨aR, nR, cR⟩ cN cH cL))
  rw [← hW0] at HB HC
  have HT0 := hide (HT.out.below HB.out)
  have HR0 := hide (HR.out.below HB.out)
  have HE0 : Hid (Below w.heap.size w (w.alloc (Cv.mk cA cT ⟨aX, nX, cX⟩ ⟨aR, nR, cR⟩ cN cH cL).o)) := hide (bl_alloc (bl_refl w) _)
  have HWI : Hid (∀ (b0 e0 : Int) (wx : World), Below W0.heap.size W0 wx → Calls Tryz.prog 85 #[(Cv.mk cA cT ⟨aX, nX, cX⟩ ⟨aR, nR, cR⟩ cN cH cL).v, .int .i64 b0, .int .i64 e0] wx (BoolP wx)) := hide (fun b0 e0 wx hwx => (within_any (Cv.mk cA cT ⟨aX, nX, cX⟩ ⟨aR, nR, cR⟩ cN cH cL) d.X b0 e0 wx (HT0.out.below hwx) (by simp only [big]; omega)).mono (fun e w' ⟨b, h1, h2, _⟩ => ⟨b, h1, h2⟩))
  generalize d.X = l at *
  generalize d.R = q at *
  go_enter Tryz.func58, Tryz.ntmps58
  by_cases h64 : 1024 < nR
  · have h64' : (1024 : Int) < (nR : Int) := by omega
    clear hW0
    go_wp2
    go_ret2
    exact ⟨_, _, rfl, HE0.out⟩
  have h64' : ¬ (1024 : Int) < (nR : Int) := by omega
  go_wp2_with fail
  rw [← hW0]
  clear hW0 HE0
  go_loopw [17] (fun kv wr => ∃ (k : Nat), kv = .int .i64 (k : Int) ∧ k ≤ nR ∧ Hid (Below W0.heap.size W0 wr)) (fun kv _ => nR - (intOf kv).toNat)
  case atStart => exact ⟨0, rfl, Nat.zero_le _, hide (bl_refl W0)⟩
  case round =>
    obtain ⟨k, rfl, hk, HBk⟩ := hrel
    have HBB := hide (HB.out.trans (HBk.out.mono HB.out.size))
    by_cases hkn : k < nR
    · have hki : (k : Int) < (nR : Int) := by omega
      have hkc : (k : Int) + 1 ≤ (cR : Int) := by omega
      obtain ⟨b, o, ⟨xl, xb, xe, ⟨as_, ns, cs⟩, xp⟩, rfl, hbl, hx, ⟨hs1, hs2, hs3⟩, e0, e1, e2, e3⟩ := (HR0.out.below HBk.out).at_ hkn
      simp only [big] at e0 e1 e2 e3 hs1 hs2 hs3
      obtain ⟨g, hg⟩ : ∃ g, g = wr.heap.size := ⟨_, rfl⟩
      obtain ⟨W2, hW2⟩ : ∃ W2, W2 = wr.alloc (.cells #[.string (bstr xl), .int .i64 xb, .int .i64 xe, .slice as_ ns cs] 76 (0, 0)) := ⟨_, rfl⟩
      have hb2 := bl_alloc HBk.out (.cells #[.string (bstr xl), .int .i64 xb, .int .i64 xe, .slice as_ ns cs] 76 (0, 0))
      have hss := hs1.below (bl_alloc (bl_refl wr) (.cells #[.string (bstr xl), .int .i64 xb, .int .i64 xe, .slice as_ ns cs] 76 (0, 0)))
      have hnw := heap_alloc_new wr (.cells #[.string (bstr xl), .int .i64 xb, .int .i64 xe, .slice as_ ns cs] 76 (0, 0))
      rw [← hW2] at hb2 hnw hss
      rw [← hg] at hnw
      have n0 : W2.cell? ⟨g, 0, none⟩ = some (.string (bstr xl)) := cell_of_row _ _ 0 _ _ _ hnw
      have n1 : W2.cell? ⟨g, 1, none⟩ = some (.int .i64 xb) := cell_of_row _ _ 1 _ _ _ hnw
      have n2 : W2.cell? ⟨g, 2, none⟩ = some (.int .i64 xe) := cell_of_row _ _ 2 _ _ _ hnw
      have n3 : W2.cell? ⟨g, 3, none⟩ = some (.slice as_ ns cs) := cell_of_row _ _ 3 _ _ _ hnw
      have HK : Hid (∀ wx, Below W2.heap.size W2 wx → wx.cell? ⟨g, 0, none⟩ = some (.string (bstr xl)) ∧ wx.cell? ⟨g, 1, none⟩ = some (.int .i64 xb) ∧ wx.cell? ⟨g, 2, none⟩ = some (.int .i64 xe) ∧ wx.cell? ⟨g, 3, none⟩ = some (.slice as_ ns cs)) := hide (fun wx h => ⟨(h.cell (lt_heap n0)).trans n0, (h.cell (lt_heap n1)).trans n1, (h.cell (lt_heap n2)).trans n2, (h.cell (lt_heap n3)).trans n3⟩)
      have HB2 := hide hb2
      have HSS := hide hss
      have HX := hide hx
      have HBW := hide (HB.out.trans (hb2.mono HB.out.size))
      have HBN : Hid (Below w.heap.size w (wr.alloc (.cells #[.string (bstr xl), .int .i64 xb, .int .i64 xe, .slice as_ ns cs] 76 (0, 0)))) := hide (by rw [← hW2]; exact HBW.out)
      clear hb2 hss hnw n0 n1 n2 n3 hx hs1
      rcases hnb : nameB xl with _ | _
      · have HF : Hid (∀ wx, Calls Tryz.prog 82 #[.string (bstr xl)] wx fun e w' => e = .returned (.bool false) ∧ wx = w') := hide (fun wx => hnb ▸ rname_any xl wx)
        clear hnb hW2
        go_wp2_with fail
        refine (HF.out _).mono ?_
        rintro e w' ⟨rfl, rfl⟩
        go_wp2
        go_ret2
        exact ⟨_, _, rfl, HBN.out⟩
      · have HF : Hid (∀ wx, Calls Tryz.prog 82 #[.string (bstr xl)] wx fun e w' => e = .returned (.bool true) ∧ wx = w') := hide (fun wx => hnb ▸ rname_any xl wx)
        clear hnb
        go_wp2_with fail
        refine (HF.out _).mono ?_
        rintro e w' ⟨rfl, rfl⟩
        rw [← hg, ← hW2]
        obtain ⟨s0, s1, s2, s3, s4, s5, s6⟩ := HC.out.below HB2.out
        simp only at s0 s1 s2 s3 s4 s5 s6
        obtain ⟨k0, k1, k2, k3⟩ := HK.out _ (bl_refl W2)
        clear HBN HF hW2 hg e0 e1 e2 e3 hbl HBk HBB
        generalize wr = w9 at *
        go_wp2_with fail
        refine (HWI.out _ _ _ HB2.out).mono ?_
        rintro e w3 ⟨b3, rfl, hb3⟩
        have HE3 := hide hb3
        have HD3 := hide (HBW.out.trans (hb3.mono HBW.out.size))
        clear hb3 s0 s1 s2 s3 s4 s5 s6 k0 k1 k2 k3
        cases b3
        · go_wp2
          go_ret2
          exact ⟨_, _, rfl, HD3.out⟩
        obtain ⟨k0, k1, k2, k3⟩ := HK.out _ HE3.out
        go_wp2_with fail
        refine (pairs_any as_ ns cs xp _ (HSS.out.below HE3.out) (by simp only [big]; omega)).mono ?_
        rintro e w4 ⟨x, rfl, hb4⟩
        have HE4 := hide (HE3.out.trans (hb4.mono HE3.out.size))
        have HD4 := hide (HBW.out.trans (HE4.out.mono HBW.out.size))
        clear hb4 k0 k1 k2 k3
        by_cases hx0 : x = 0
        case neg =>
          have hx0' : (x != 0) = true := by rw [bne_iff_ne]; exact hx0
          go_wp2
          go_ret2
          exact ⟨_, _, rfl, HD4.out⟩
        subst hx0
        have HBX := hide (HB2.out.trans (HE4.out.mono HB2.out.size))
        cases k with
        | zero =>
          go_wp2_with fail
          refine wp_region_K 10 (by kernel_rfl) (by kernel_rfl) (fun Q HQ => ?_)
          simp only [List.take_succ_cons, List.take_zero, List.map_cons, List.map_nil]
          repeat
            first
            | (refine wpS_skip (b := true) rfl (guard_mk rfl rfl) ?_)
            | (refine wpS_skip (b := false) rfl (guard_mk rfl rfl) ?_)
            | (refine wpS_skipU rfl (guardU_mk rfl rfl) ?_)
            | (first | apply wpS_c rfl | apply wpS_gc rfl (guard_mk rfl rfl)
               focus
                 intro ev wx hC hx
                 (try simp [Op.operands, Call.operands, opndS, Slot.holds] at hx)
                 go_simp
                 try (first | exact rfl | exact ⟨Below.refl _ _, rfl⟩)
                 done)
            dsimp only [setS, List.set]
          refine wpS_nil (HQ _ fun w5 hC5 => ?_)
          simp only [closeS, List.drop_succ_cons, List.drop_zero, List.drop_nil]
          have HE5 := hide (HE4.out.trans (hC5.below.mono HE4.out.size))
          have HD5 := hide (HBW.out.trans (HE5.out.mono HBW.out.size))
          have HC5 := hide (HB2.out.trans (HE5.out.mono HB2.out.size))
          have hC5x := hide hC5.below
          clear HQ hC5
          obtain ⟨s0, s1, s2, s3, s4, s5, s6⟩ := HC.out.below HC5.out
          simp only at s0 s1 s2 s3 s4 s5 s6
          go_wp2_with fail
          clear s0 s1 s2 s3 s4 s5 s6
          generalize w5 = w8 at *
          go_loopw [7, 64] (fun dv jv wr => ∃ (D : Int) (j : Nat), dv = .int .i64 D ∧ jv = .int .i64 (j : Int) ∧ j ≤ (0 + 1) ∧ Hid (Below W2.heap.size W2 wr)) (fun _ jv _ => (0 + 1) - (intOf jv).toNat)
          case atStart => exact ⟨_, 0, rfl, rfl, Nat.zero_le _, HE5⟩
          case round =>
            obtain ⟨D, j, rfl, rfl, hj, HE⟩ := hrel
            have HBC := hide (HB2.out.trans (HE.out.mono HB2.out.size))
            have HBD := hide (HBW.out.trans (HE.out.mono HBW.out.size))
            by_cases hjk : j < (0 + 1)
            · have hji : (j : Int) < (((0 + 1) : Nat) : Int) := by omega
              obtain ⟨b', o', ⟨ql, qb, qe, ⟨qa, qn, qc⟩, qp⟩, hb', hbl', hx', -, f0, f1, f2, f3⟩ := (HR0.out.below HBC.out).at_ (show j < nR by omega)
              injection hb' with hb'
              injection hb' with q1 q2
              subst q1 q2
              simp only at f0 f1 f2 f3
              have HB3 := hide (bl_alloc HBD.out (.cells #[.string (bstr ql), .int .i64 qb, .int .i64 qe, .slice qa qn qc] 76 (0, 0)))
              have HE3 := hide (bl_alloc HE.out (.cells #[.string (bstr ql), .int .i64 qb, .int .i64 qe, .slice qa qn qc] 76 (0, 0)))
              clear hx' hbl'
              by_cases hql : ql = xl
              · subst hql
                obtain ⟨k0, k1, k2, k3⟩ := HK.out _ HE3.out
                go_wp2 <;> first
                  | (go_ret2; exact ⟨_, _, rfl, HB3.out⟩; done)
                  | (go_roundw
                     case rel => exact ⟨_, j + 1, rfl, by go_num, by omega, HE3⟩
                     case measure => simp [intOf]; omega)
              · have hql' : (ql == xl) = false := by rw [beq_eq_false_iff_ne]; exact hql
                obtain ⟨k0, k1, k2, k3⟩ := HK.out _ HE3.out
                go_wp2 <;> first
                  | (go_ret2; exact ⟨_, _, rfl, HB3.out⟩; done)
                  | (go_roundw
                     case rel => exact ⟨_, j + 1, rfl, by go_num, by omega, HE3⟩
                     case measure => simp [intOf]; omega)
            · obtain rfl : j = (0 + 1) := by omega
              clear hjk
              go_wp2
              · go_ret2
                exact ⟨_, _, rfl, HBD.out⟩
              · go_roundw
                case rel => exact ⟨(0 + 1), by go_num, by omega, HBC⟩
                case measure => simp [intOf]; omega
        | succ m =>
          obtain ⟨b', o', ⟨ql, qb, qe, ⟨qa, qn, qc⟩, qp⟩, hb', hbl', hx', ⟨hq1, hq2, hq3⟩, f0, f1, f2, f3⟩ := (HR0.out.below HBX.out).at_ (show m < nR by omega)
          injection hb' with hb'
          injection hb' with q1 q2
          subst q1 q2
          simp only [big] at f0 f1 f2 f3 hq1 hq2 hq3
          have HF0 := hide (And.intro f0 (And.intro f1 (And.intro f2 f3)))
          have HQ1 := hide hq1
          clear f0 f1 f2 f3 hx' hbl' hq1
          have hm1 : ((m + 1 : Nat) : Int) - 1 = (m : Int) := by omega
          have hw : IntKind.i64.wrap (m : Int) = (m : Int) := wrap_ok (by omega) (by omega)
          have hmn : (m : Int) < (nR : Int) := by omega
          have hm0 : (0 : Int) < ((m + 1 : Nat) : Int) := by omega
          go_wp2_with fail
          refine wp_region_K 10 (by kernel_rfl) (by kernel_rfl) (fun Q HQ => ?_)
          simp only [List.take_succ_cons, List.take_zero, List.map_cons, List.map_nil]
          repeat
            first | apply wpS_c rfl | apply wpS_gc rfl (guard_mk rfl rfl)
            focus
              intro ev wx hC hx
              (try simp [Op.operands, Call.operands, opndS, Slot.holds] at hx)
              have hz := HF0.out
              obtain ⟨f0, f1, f2, f3⟩ := hz
              have z0 := hC.cell f0
              have z1 := hC.cell f1
              have z2 := hC.cell f2
              have z3 := hC.cell f3
              obtain ⟨k0, k1, k2, k3⟩ := HK.out _ (HE4.out.trans (hC.below.mono HE4.out.size))
              have s3 := (HC.out.below (HBX.out.trans (hC.below.mono HBX.out.size))).c3
              simp only at s3
              go_simp
              try (first | exact rfl | exact ⟨Below.refl _ _, rfl⟩)
              done
            dsimp only [setS, List.set]
          refine wpS_nil (HQ _ fun w5 hC5 => ?_)
          simp only [closeS, List.drop_succ_cons, List.drop_zero, List.drop_nil]
          have HE5 := hide (HE4.out.trans (hC5.below.mono HE4.out.size))
          have HD5 := hide (HBW.out.trans (HE5.out.mono HBW.out.size))
          have HC5 := hide (HB2.out.trans (HE5.out.mono HB2.out.size))
          have hC5x := hide hC5.below
          clear HQ hC5
          go_wp2_with fail
          refine (compR_any (Tx.mk ql qb qe ⟨qa, qn, qc⟩ qp) (Tx.mk xl xb xe ⟨as_, ns, cs⟩ xp) _ ⟨HQ1.out.below hC5x.out, by simp only [big]; omega⟩ ⟨HSS.out.below HE5.out, by simp only [big]; omega⟩).mono ?_
          rintro e w6 ⟨x6, rfl, hb6⟩
          have HE5 := hide (HE5.out.trans (hb6.mono HE5.out.size))
          have HD5 := hide (HBW.out.trans (HE5.out.mono HBW.out.size))
          have HC5 := hide (HB2.out.trans (HE5.out.mono HB2.out.size))
          clear hb6
          by_cases h6 : 0 < x6
          case pos =>
            go_wp2
            go_ret2
            exact ⟨_, _, rfl, HD5.out⟩
          obtain ⟨s0, s1, s2, s3, s4, s5, s6⟩ := HC.out.below HC5.out
          simp only at s0 s1 s2 s3 s4 s5 s6
          go_wp2_with fail
          clear s0 s1 s2 s3 s4 s5 s6
          generalize w6 = w8 at *
          go_loopw [7, 64] (fun dv jv wr => ∃ (D : Int) (j : Nat), dv = .int .i64 D ∧ jv = .int .i64 (j : Int) ∧ j ≤ (m + 1 + 1) ∧ Hid (Below W2.heap.size W2 wr)) (fun _ jv _ => (m + 1 + 1) - (intOf jv).toNat)
          case atStart => exact ⟨_, 0, rfl, rfl, Nat.zero_le _, HE5⟩
          case round =>
            obtain ⟨D, j, rfl, rfl, hj, HE⟩ := hrel
            have HBC := hide (HB2.out.trans (HE.out.mono HB2.out.size))
            have HBD := hide (HBW.out.trans (HE.out.mono HBW.out.size))
            by_cases hjk : j < (m + 1 + 1)
            · have hji : (j : Int) < (((m + 1 + 1) : Nat) : Int) := by omega
              obtain ⟨b', o', ⟨ql, qb, qe, ⟨qa, qn, qc⟩, qp⟩, hb', hbl', hx', -, f0, f1, f2, f3⟩ := (HR0.out.below HBC.out).at_ (show j < nR by omega)
              injection hb' with hb'
              injection hb' with q1 q2
              subst q1 q2
              simp only at f0 f1 f2 f3
              have HB3 := hide (bl_alloc HBD.out (.cells #[.string (bstr ql), .int .i64 qb, .int .i64 qe, .slice qa qn qc] 76 (0, 0)))
              have HE3 := hide (bl_alloc HE.out (.cells #[.string (bstr ql), .int .i64 qb, .int .i64 qe, .slice qa qn qc] 76 (0, 0)))
              clear hx' hbl'
              by_cases hql : ql = xl
              · subst hql
                obtain ⟨k0, k1, k2, k3⟩ := HK.out _ HE3.out
                go_wp2 <;> first
                  | (go_ret2; exact ⟨_, _, rfl, HB3.out⟩; done)
                  | (go_roundw
                     case rel => exact ⟨_, j + 1, rfl, by go_num, by omega, HE3⟩
                     case measure => simp [intOf]; omega)
              · have hql' : (ql == xl) = false := by rw [beq_eq_false_iff_ne]; exact hql
                obtain ⟨k0, k1, k2, k3⟩ := HK.out _ HE3.out
                go_wp2 <;> first
                  | (go_ret2; exact ⟨_, _, rfl, HB3.out⟩; done)
                  | (go_roundw
                     case rel => exact ⟨_, j + 1, rfl, by go_num, by omega, HE3⟩
                     case measure => simp [intOf]; omega)
            · obtain rfl : j = (m + 1 + 1) := by omega
              clear hjk
              go_wp2
              · go_ret2
                exact ⟨_, _, rfl, HBD.out⟩
              · go_roundw
                case rel => exact ⟨(m + 1 + 1), by go_num, by omega, HBC⟩
                case measure => simp [intOf]; omega
    · obtain rfl : k = nR := by omega
      clear hkn
      go_wp2
      go_ret2
      exact ⟨_, _, rfl, HBB.out⟩
end Go.Proofs.YtbpkclopcoaikaaGreatDoor
namespace Go.Proofs.YtbpkclopcoaikaaGreatDoor
open Go.RowKit
set_option linter.unusedVariables false
set_option linter.unusedSimpArgs false
def TextsOk (l : List Tx) (n : Nat) : Prop := ∀ t ∈ l, 0 ≤ t.b ∧ t.e ≤ (n : Int)
def TextsP (l : List Tx) (n : Nat) (w : World) (e : Ending) (w' : World) : Prop := ∃ x y : Int, e = .returned (.tuple #[.int .i64 x, .int .i64 y]) ∧ Below w.heap.size w w' ∧ (y = 0 → TextsOk l n)
set_option maxHeartbeats 8000000 in
set_option maxRecDepth 100000 in
theorem texts_any (c : Cv) (d : Cd) (w : World) (h : IsCo w c d) (hf : CFit c) : Calls Tryz.prog 57 #[c.v] w (TextsP d.X c.T.n w) := by
  have HT := hide h.X
  have hft := hf.X
  have hfn := hf.T
  clear h hf
  obtain ⟨cA, ⟨aT, nT, cT⟩, ⟨aX, nX, cX⟩, cR, cN, cH, cL⟩ := c
  simp only [big] at HT hft hfn ⊢
  obtain ⟨W0, hW0⟩ : ∃ W0, W0 = w.alloc (Cv.mk cA ⟨aT, nT, cT⟩ ⟨aX, nX, cX⟩ cR cN cH cL).o := ⟨_, rfl⟩
  have HB := hide (bl_alloc (bl_refl w) (Cv.mk cA ⟨aT, nT, cT⟩ ⟨aX, nX, cX⟩ cR cN cH cL).o)
  have HC := hide (CCells.new w (Cv.mk cA ⟨aT, nT, cT⟩ ⟨aX, nX, cX⟩ cR cN cH cL))
  rw [← hW0] at HB HC
  have HT0 := hide (HT.out.below HB.out)
  have HE0 : Hid (Below w.heap.size w (w.alloc (Cv.mk cA ⟨aT, nT, cT⟩ ⟨aX, nX, cX⟩ cR cN cH cL).o)) := hide (bl_alloc (bl_refl w) _)
  generalize d.X = l at *
  go_enter Tryz.func57, Tryz.ntmps57
  by_cases h64 : 64 < nX
  · have h64' : (64 : Int) < (nX : Int) := by omega
    clear hW0
    go_wp2
    go_ret2
    exact ⟨_, _, rfl, HE0.out, fun h => by simp at h⟩
  have h64' : ¬ (64 : Int) < (nX : Int) := by omega
  have hxy : ((nX : Int) == 0) = ((nT : Int) == 0) ∨ (((nX : Int) == 0) != ((nT : Int) == 0)) = true := by
    by_cases h : ((nX : Int) == 0) = ((nT : Int) == 0)
    · exact .inl h
    · exact .inr (by rw [bne_iff_ne]; exact h)
  have hxy2 : ((nX : Int) == 0) = true ∨ ((nX : Int) == 0) = false := by cases ((nX : Int) == 0) <;> simp
  have hty2 : ((nT : Int) == 0) = true ∨ ((nT : Int) == 0) = false := by cases ((nT : Int) == 0) <;> simp
  clear hxy
  rcases hxy2 with hx0 | hx0 <;> rcases hty2 with ht0 | ht0
  · skip
    go_wp2_with fail
    rw [← hW0]
    clear hW0 HE0
    go_loopw [5, 28] (fun ev kv wr => ∃ (E : Int) (k : Nat), ev = .int .i64 E ∧ kv = .int .i64 (k : Int) ∧ 0 ≤ E ∧ k ≤ nX ∧ Hid (∀ i, i < k → ∀ t, l[i]? = some t → 0 ≤ t.b ∧ t.e ≤ (nT : Int)) ∧ Hid (Below W0.heap.size W0 wr)) (fun _ kv _ => nX - (intOf kv).toNat)
    case atStart => exact ⟨0, 0, rfl, rfl, Int.le_refl _, Nat.zero_le _, hide (fun i h => absurd h (Nat.not_lt_zero _)), hide (bl_refl W0)⟩
    case round =>
      obtain ⟨E, k, rfl, rfl, hE0, hk, HG, HBk⟩ := hrel
      have HBB := hide (HB.out.trans (HBk.out.mono HB.out.size))
      by_cases hkn : k < nX
      · have hki : (k : Int) < (nX : Int) := by omega
        have hkc : (k : Int) ≤ (cX : Int) := by omega
        obtain ⟨b, o, ⟨xl, xb, xe, ⟨as_, ns, cs⟩, xp⟩, rfl, hbl, hx, ⟨hs1, hs2, hs3⟩, e0, e1, e2, e3⟩ := (HT0.out.below HBk.out).at_ hkn
        simp only [big] at e0 e1 e2 e3 hs1 hs2 hs3
        obtain ⟨g, hg⟩ : ∃ g, g = wr.heap.size := ⟨_, rfl⟩
        obtain ⟨W2, hW2⟩ : ∃ W2, W2 = wr.alloc (.cells #[.string (bstr xl), .int .i64 xb, .int .i64 xe, .slice as_ ns cs] 88 (0, 0)) := ⟨_, rfl⟩
        have hb2 := bl_alloc HBk.out (.cells #[.string (bstr xl), .int .i64 xb, .int .i64 xe, .slice as_ ns cs] 88 (0, 0))
        have hss := hs1.below (bl_alloc (bl_refl wr) (.cells #[.string (bstr xl), .int .i64 xb, .int .i64 xe, .slice as_ ns cs] 88 (0, 0)))
        have hnw := heap_alloc_new wr (.cells #[.string (bstr xl), .int .i64 xb, .int .i64 xe, .slice as_ ns cs] 88 (0, 0))
        rw [← hW2] at hb2 hnw hss
        rw [← hg] at hnw
        have n0 : W2.cell? ⟨g, 0, none⟩ = some (.string (bstr xl)) := cell_of_row _ _ 0 _ _ _ hnw
        have n1 : W2.cell? ⟨g, 1, none⟩ = some (.int .i64 xb) := cell_of_row _ _ 1 _ _ _ hnw
        have n2 : W2.cell? ⟨g, 2, none⟩ = some (.int .i64 xe) := cell_of_row _ _ 2 _ _ _ hnw
        have n3 : W2.cell? ⟨g, 3, none⟩ = some (.slice as_ ns cs) := cell_of_row _ _ 3 _ _ _ hnw
        have HK : Hid (∀ wx, Below W2.heap.size W2 wx → wx.cell? ⟨g, 0, none⟩ = some (.string (bstr xl)) ∧ wx.cell? ⟨g, 1, none⟩ = some (.int .i64 xb) ∧ wx.cell? ⟨g, 2, none⟩ = some (.int .i64 xe) ∧ wx.cell? ⟨g, 3, none⟩ = some (.slice as_ ns cs)) := hide (fun wx h => ⟨(h.cell (lt_heap n0)).trans n0, (h.cell (lt_heap n1)).trans n1, (h.cell (lt_heap n2)).trans n2, (h.cell (lt_heap n3)).trans n3⟩)
        have HB2 := hide hb2
        have HSS := hide hss
        have HX := hide hx
        have HBW := hide (HB.out.trans (hb2.mono HB.out.size))
        have HC2 := hide (HC.out.below hb2)
        have HBN : Hid (Below w.heap.size w (wr.alloc (.cells #[.string (bstr xl), .int .i64 xb, .int .i64 xe, .slice as_ ns cs] 88 (0, 0)))) := hide (by rw [← hW2]; exact HBW.out)
        clear hb2 hss hnw n0 n1 n2 n3 hx hs1
        have c2 := (HC.out.below HBk.out).c2
        simp only at c2
        have HC2' : Hid ((wr.alloc (.cells #[.string (bstr xl), .int .i64 xb, .int .i64 xe, .slice as_ ns cs] 88 (0, 0))).cell? ⟨w.heap.size, 2, none⟩ = some (.slice (some ⟨b, o, none⟩) nX cX)) := hide (by rw [← hW2]; exact HC2.out.c2)
        rcases hnb : nameB xl with _ | _
        · have HF : Hid (∀ wx, Calls Tryz.prog 82 #[.string (bstr xl)] wx fun e w' => e = .returned (.bool false) ∧ wx = w') := hide (fun wx => hnb ▸ rname_any xl wx)
          clear hnb hW2
          go_wp2_with fail
          refine (HF.out _).mono ?_
          rintro e w' ⟨rfl, rfl⟩
          go_wp2
          go_ret2
          exact ⟨_, _, rfl, HBN.out, fun h => by simp at h⟩
        · have HF : Hid (∀ wx, Calls Tryz.prog 82 #[.string (bstr xl)] wx fun e w' => e = .returned (.bool true) ∧ wx = w') := hide (fun wx => hnb ▸ rname_any xl wx)
          clear hnb
          go_wp2_with fail
          refine (HF.out _).mono ?_
          rintro e w' ⟨rfl, rfl⟩
          have c2' := HC2'.out
          go_wp2_with fail
          clear c2'
          rw [← hg, ← hW2]
          clear HBN HC2' HF c2 hW2 hg e0 e1 e2 e3 hbl HBk HBB
          generalize wr = w9 at *
          go_loopw [43] (fun kv wr => ∃ (j : Nat), kv = .int .i64 (j : Int) ∧ j ≤ k ∧ Hid (Below W2.heap.size W2 wr)) (fun kv _ => k - (intOf kv).toNat)
          case atStart => exact ⟨0, rfl, Nat.zero_le _, hide (bl_refl W2)⟩
          case round =>
            obtain ⟨j, rfl, hj, HE⟩ := hrel
            have HBC := hide (HB2.out.trans (HE.out.mono HB2.out.size))
            have HBD := hide (HBW.out.trans (HE.out.mono HBW.out.size))
            by_cases hjk : j < k
            · have hji : (j : Int) < (k : Int) := by omega
              obtain ⟨b', o', ⟨ql, qb, qe, ⟨qa, qn, qc⟩, qp⟩, hb', hbl', hx', -, f0, f1, f2, f3⟩ := (HT0.out.below HBC.out).at_ (show j < nX by omega)
              injection hb' with hb'
              injection hb' with q1 q2
              subst q1 q2
              simp only at f0 f1 f2 f3
              have HB3 := hide (bl_alloc HBD.out (.cells #[.string (bstr ql), .int .i64 qb, .int .i64 qe, .slice qa qn qc] 88 (0, 0)))
              have HE3 := hide (bl_alloc HE.out (.cells #[.string (bstr ql), .int .i64 qb, .int .i64 qe, .slice qa qn qc] 88 (0, 0)))
              obtain ⟨k0, k1, k2, k3⟩ := HK.out _ HE3.out
              clear hx' hbl'
              go_wp2
              · go_ret2
                exact ⟨_, _, rfl, HB3.out, fun h => by simp at h⟩
              · go_roundw
                case rel => exact ⟨j + 1, by go_num, by omega, HE3⟩
                case measure => simp [intOf]; omega
            · obtain rfl : j = k := by omega
              obtain ⟨k0, k1, k2, k3⟩ := HK.out _ HE.out
              have c2 := (HC.out.below HBC.out).c2
              simp only at c2
              clear hjk
              by_cases h1 : xb = E
              case neg =>
                have h1' : (xb != E) = true := by rw [bne_iff_ne]; exact h1
                go_wp2
                go_ret2
                exact ⟨_, _, rfl, HBD.out, fun h => by simp at h⟩
              subst h1
              by_cases h2 : xe ≤ xb
              case pos =>
                go_wp2
                go_ret2
                exact ⟨_, _, rfl, HBD.out, fun h => by simp at h⟩
              by_cases h3 : (nT : Int) < xe
              case pos =>
                go_wp2
                go_ret2
                exact ⟨_, _, rfl, HBD.out, fun h => by simp at h⟩
              have HG2 : Hid (∀ i, i < j + 1 → ∀ t, l[i]? = some t → 0 ≤ t.b ∧ t.e ≤ (nT : Int)) := hide (fun i hi t ht => by
                rcases Nat.lt_or_ge i j with h | h
                · exact HG.out i h t ht
                · obtain rfl : i = j := by omega
                  rw [HX.out] at ht
                  injection ht with ht
                  subst ht
                  exact ⟨hE0, by simp only; omega⟩)
              have hw : IntKind.i64.wrap ((nX : Int) - 1) = (nX : Int) - 1 := wrap_ok (by omega) (by omega)
              by_cases h4 : (j : Int) = (nX : Int) - 1
              case pos =>
                have h4' : ((j : Int) == (nX : Int) - 1) = true := by rw [beq_iff_eq]; exact h4
                by_cases h5 : xe = (nT : Int)
                case neg =>
                  have h5' : (xe != (nT : Int)) = true := by rw [bne_iff_ne]; exact h5
                  go_wp2
                  go_ret2
                  exact ⟨_, _, rfl, HBD.out, fun h => by simp at h⟩
                have h5' : (xe != (nT : Int)) = false := by rw [h5]; simp
                go_wp2_with fail
                refine (pairs_any as_ ns cs xp _ (HSS.out.below HE.out) (by simp only [big]; omega)).mono ?_
                rintro e w7 ⟨x, rfl, hb7⟩
                have HB7 := hide (HBD.out.trans (hb7.mono HBD.out.size))
                have HE7 := hide (HBC.out.trans (hb7.mono HBC.out.size))
                have k2' := (HK.out w7 (HE.out.trans (hb7.mono HE.out.size))).2.2.1
                clear hb7
                by_cases hx0 : x = 0
                · subst hx0
                  go_wp2
                  go_roundw
                  case rel => exact ⟨xe, j + 1, by first | rfl | rw [h5], by go_num, by omega, by omega, HG2, HE7⟩
                  case measure => simp [intOf]; omega
                · have hx0' : (x != 0) = true := by rw [bne_iff_ne]; exact hx0
                  go_wp2
                  go_ret2
                  exact ⟨_, _, rfl, HB7.out, fun h => absurd h hx0⟩
              have h4' : ((j : Int) == (nX : Int) - 1) = false := by rw [beq_eq_false_iff_ne]; exact h4
              go_wp2_with fail
              refine (pairs_any as_ ns cs xp _ (HSS.out.below HE.out) (by simp only [big]; omega)).mono ?_
              rintro e w7 ⟨x, rfl, hb7⟩
              have HB7 := hide (HBD.out.trans (hb7.mono HBD.out.size))
              have HE7 := hide (HBC.out.trans (hb7.mono HBC.out.size))
              have k2' := (HK.out w7 (HE.out.trans (hb7.mono HE.out.size))).2.2.1
              clear hb7
              by_cases hx0 : x = 0
              · subst hx0
                go_wp2
                go_roundw
                case rel => exact ⟨xe, j + 1, by first | rfl | rw [h5], by go_num, by omega, by omega, HG2, HE7⟩
                case measure => simp [intOf]; omega
              · have hx0' : (x != 0) = true := by rw [bne_iff_ne]; exact hx0
                go_wp2
                go_ret2
                exact ⟨_, _, rfl, HB7.out, fun h => absurd h hx0⟩
      · obtain rfl : k = nX := by omega
        have HR : Hid (TextsOk l nT) := hide (fun t ht => by
          obtain ⟨i, hi, e⟩ := List.getElem_of_mem ht
          exact HG.out i (by have := HT.out.len; omega) t (by rw [List.getElem?_eq_getElem hi, e]))
        clear hkn
        go_wp2
        go_ret2
        exact ⟨_, _, rfl, HBB.out, fun _ => HR.out⟩
  · skip
    clear hW0
    go_wp2
    go_ret2
    exact ⟨_, _, rfl, HE0.out, fun h => by simp at h⟩
  · skip
    clear hW0
    go_wp2
    go_ret2
    exact ⟨_, _, rfl, HE0.out, fun h => by simp at h⟩
  · skip
    go_wp2_with fail
    rw [← hW0]
    clear hW0 HE0
    go_loopw [5, 28] (fun ev kv wr => ∃ (E : Int) (k : Nat), ev = .int .i64 E ∧ kv = .int .i64 (k : Int) ∧ 0 ≤ E ∧ k ≤ nX ∧ Hid (∀ i, i < k → ∀ t, l[i]? = some t → 0 ≤ t.b ∧ t.e ≤ (nT : Int)) ∧ Hid (Below W0.heap.size W0 wr)) (fun _ kv _ => nX - (intOf kv).toNat)
    case atStart => exact ⟨0, 0, rfl, rfl, Int.le_refl _, Nat.zero_le _, hide (fun i h => absurd h (Nat.not_lt_zero _)), hide (bl_refl W0)⟩
    case round =>
      obtain ⟨E, k, rfl, rfl, hE0, hk, HG, HBk⟩ := hrel
      have HBB := hide (HB.out.trans (HBk.out.mono HB.out.size))
      by_cases hkn : k < nX
      · have hki : (k : Int) < (nX : Int) := by omega
        have hkc : (k : Int) ≤ (cX : Int) := by omega
        obtain ⟨b, o, ⟨xl, xb, xe, ⟨as_, ns, cs⟩, xp⟩, rfl, hbl, hx, ⟨hs1, hs2, hs3⟩, e0, e1, e2, e3⟩ := (HT0.out.below HBk.out).at_ hkn
        simp only [big] at e0 e1 e2 e3 hs1 hs2 hs3
        obtain ⟨g, hg⟩ : ∃ g, g = wr.heap.size := ⟨_, rfl⟩
        obtain ⟨W2, hW2⟩ : ∃ W2, W2 = wr.alloc (.cells #[.string (bstr xl), .int .i64 xb, .int .i64 xe, .slice as_ ns cs] 88 (0, 0)) := ⟨_, rfl⟩
        have hb2 := bl_alloc HBk.out (.cells #[.string (bstr xl), .int .i64 xb, .int .i64 xe, .slice as_ ns cs] 88 (0, 0))
        have hss := hs1.below (bl_alloc (bl_refl wr) (.cells #[.string (bstr xl), .int .i64 xb, .int .i64 xe, .slice as_ ns cs] 88 (0, 0)))
        have hnw := heap_alloc_new wr (.cells #[.string (bstr xl), .int .i64 xb, .int .i64 xe, .slice as_ ns cs] 88 (0, 0))
        rw [← hW2] at hb2 hnw hss
        rw [← hg] at hnw
        have n0 : W2.cell? ⟨g, 0, none⟩ = some (.string (bstr xl)) := cell_of_row _ _ 0 _ _ _ hnw
        have n1 : W2.cell? ⟨g, 1, none⟩ = some (.int .i64 xb) := cell_of_row _ _ 1 _ _ _ hnw
        have n2 : W2.cell? ⟨g, 2, none⟩ = some (.int .i64 xe) := cell_of_row _ _ 2 _ _ _ hnw
        have n3 : W2.cell? ⟨g, 3, none⟩ = some (.slice as_ ns cs) := cell_of_row _ _ 3 _ _ _ hnw
        have HK : Hid (∀ wx, Below W2.heap.size W2 wx → wx.cell? ⟨g, 0, none⟩ = some (.string (bstr xl)) ∧ wx.cell? ⟨g, 1, none⟩ = some (.int .i64 xb) ∧ wx.cell? ⟨g, 2, none⟩ = some (.int .i64 xe) ∧ wx.cell? ⟨g, 3, none⟩ = some (.slice as_ ns cs)) := hide (fun wx h => ⟨(h.cell (lt_heap n0)).trans n0, (h.cell (lt_heap n1)).trans n1, (h.cell (lt_heap n2)).trans n2, (h.cell (lt_heap n3)).trans n3⟩)
        have HB2 := hide hb2
        have HSS := hide hss
        have HX := hide hx
        have HBW := hide (HB.out.trans (hb2.mono HB.out.size))
        have HC2 := hide (HC.out.below hb2)
        have HBN : Hid (Below w.heap.size w (wr.alloc (.cells #[.string (bstr xl), .int .i64 xb, .int .i64 xe, .slice as_ ns cs] 88 (0, 0)))) := hide (by rw [← hW2]; exact HBW.out)
        clear hb2 hss hnw n0 n1 n2 n3 hx hs1
        have c2 := (HC.out.below HBk.out).c2
        simp only at c2
        have HC2' : Hid ((wr.alloc (.cells #[.string (bstr xl), .int .i64 xb, .int .i64 xe, .slice as_ ns cs] 88 (0, 0))).cell? ⟨w.heap.size, 2, none⟩ = some (.slice (some ⟨b, o, none⟩) nX cX)) := hide (by rw [← hW2]; exact HC2.out.c2)
        rcases hnb : nameB xl with _ | _
        · have HF : Hid (∀ wx, Calls Tryz.prog 82 #[.string (bstr xl)] wx fun e w' => e = .returned (.bool false) ∧ wx = w') := hide (fun wx => hnb ▸ rname_any xl wx)
          clear hnb hW2
          go_wp2_with fail
          refine (HF.out _).mono ?_
          rintro e w' ⟨rfl, rfl⟩
          go_wp2
          go_ret2
          exact ⟨_, _, rfl, HBN.out, fun h => by simp at h⟩
        · have HF : Hid (∀ wx, Calls Tryz.prog 82 #[.string (bstr xl)] wx fun e w' => e = .returned (.bool true) ∧ wx = w') := hide (fun wx => hnb ▸ rname_any xl wx)
          clear hnb
          go_wp2_with fail
          refine (HF.out _).mono ?_
          rintro e w' ⟨rfl, rfl⟩
          have c2' := HC2'.out
          go_wp2_with fail
          clear c2'
          rw [← hg, ← hW2]
          clear HBN HC2' HF c2 hW2 hg e0 e1 e2 e3 hbl HBk HBB
          generalize wr = w9 at *
          go_loopw [43] (fun kv wr => ∃ (j : Nat), kv = .int .i64 (j : Int) ∧ j ≤ k ∧ Hid (Below W2.heap.size W2 wr)) (fun kv _ => k - (intOf kv).toNat)
          case atStart => exact ⟨0, rfl, Nat.zero_le _, hide (bl_refl W2)⟩
          case round =>
            obtain ⟨j, rfl, hj, HE⟩ := hrel
            have HBC := hide (HB2.out.trans (HE.out.mono HB2.out.size))
            have HBD := hide (HBW.out.trans (HE.out.mono HBW.out.size))
            by_cases hjk : j < k
            · have hji : (j : Int) < (k : Int) := by omega
              obtain ⟨b', o', ⟨ql, qb, qe, ⟨qa, qn, qc⟩, qp⟩, hb', hbl', hx', -, f0, f1, f2, f3⟩ := (HT0.out.below HBC.out).at_ (show j < nX by omega)
              injection hb' with hb'
              injection hb' with q1 q2
              subst q1 q2
              simp only at f0 f1 f2 f3
              have HB3 := hide (bl_alloc HBD.out (.cells #[.string (bstr ql), .int .i64 qb, .int .i64 qe, .slice qa qn qc] 88 (0, 0)))
              have HE3 := hide (bl_alloc HE.out (.cells #[.string (bstr ql), .int .i64 qb, .int .i64 qe, .slice qa qn qc] 88 (0, 0)))
              obtain ⟨k0, k1, k2, k3⟩ := HK.out _ HE3.out
              clear hx' hbl'
              go_wp2
              · go_ret2
                exact ⟨_, _, rfl, HB3.out, fun h => by simp at h⟩
              · go_roundw
                case rel => exact ⟨j + 1, by go_num, by omega, HE3⟩
                case measure => simp [intOf]; omega
            · obtain rfl : j = k := by omega
              obtain ⟨k0, k1, k2, k3⟩ := HK.out _ HE.out
              have c2 := (HC.out.below HBC.out).c2
              simp only at c2
              clear hjk
              by_cases h1 : xb = E
              case neg =>
                have h1' : (xb != E) = true := by rw [bne_iff_ne]; exact h1
                go_wp2
                go_ret2
                exact ⟨_, _, rfl, HBD.out, fun h => by simp at h⟩
              subst h1
              by_cases h2 : xe ≤ xb
              case pos =>
                go_wp2
                go_ret2
                exact ⟨_, _, rfl, HBD.out, fun h => by simp at h⟩
              by_cases h3 : (nT : Int) < xe
              case pos =>
                go_wp2
                go_ret2
                exact ⟨_, _, rfl, HBD.out, fun h => by simp at h⟩
              have HG2 : Hid (∀ i, i < j + 1 → ∀ t, l[i]? = some t → 0 ≤ t.b ∧ t.e ≤ (nT : Int)) := hide (fun i hi t ht => by
                rcases Nat.lt_or_ge i j with h | h
                · exact HG.out i h t ht
                · obtain rfl : i = j := by omega
                  rw [HX.out] at ht
                  injection ht with ht
                  subst ht
                  exact ⟨hE0, by simp only; omega⟩)
              have hw : IntKind.i64.wrap ((nX : Int) - 1) = (nX : Int) - 1 := wrap_ok (by omega) (by omega)
              by_cases h4 : (j : Int) = (nX : Int) - 1
              case pos =>
                have h4' : ((j : Int) == (nX : Int) - 1) = true := by rw [beq_iff_eq]; exact h4
                by_cases h5 : xe = (nT : Int)
                case neg =>
                  have h5' : (xe != (nT : Int)) = true := by rw [bne_iff_ne]; exact h5
                  go_wp2
                  go_ret2
                  exact ⟨_, _, rfl, HBD.out, fun h => by simp at h⟩
                have h5' : (xe != (nT : Int)) = false := by rw [h5]; simp
                go_wp2_with fail
                refine (pairs_any as_ ns cs xp _ (HSS.out.below HE.out) (by simp only [big]; omega)).mono ?_
                rintro e w7 ⟨x, rfl, hb7⟩
                have HB7 := hide (HBD.out.trans (hb7.mono HBD.out.size))
                have HE7 := hide (HBC.out.trans (hb7.mono HBC.out.size))
                have k2' := (HK.out w7 (HE.out.trans (hb7.mono HE.out.size))).2.2.1
                clear hb7
                by_cases hx0 : x = 0
                · subst hx0
                  go_wp2
                  go_roundw
                  case rel => exact ⟨xe, j + 1, by first | rfl | rw [h5], by go_num, by omega, by omega, HG2, HE7⟩
                  case measure => simp [intOf]; omega
                · have hx0' : (x != 0) = true := by rw [bne_iff_ne]; exact hx0
                  go_wp2
                  go_ret2
                  exact ⟨_, _, rfl, HB7.out, fun h => absurd h hx0⟩
              have h4' : ((j : Int) == (nX : Int) - 1) = false := by rw [beq_eq_false_iff_ne]; exact h4
              go_wp2_with fail
              refine (pairs_any as_ ns cs xp _ (HSS.out.below HE.out) (by simp only [big]; omega)).mono ?_
              rintro e w7 ⟨x, rfl, hb7⟩
              have HB7 := hide (HBD.out.trans (hb7.mono HBD.out.size))
              have HE7 := hide (HBC.out.trans (hb7.mono HBC.out.size))
              have k2' := (HK.out w7 (HE.out.trans (hb7.mono HE.out.size))).2.2.1
              clear hb7
              by_cases hx0 : x = 0
              · subst hx0
                go_wp2
                go_roundw
                case rel => exact ⟨xe, j + 1, by first | rfl | rw [h5], by go_num, by omega, by omega, HG2, HE7⟩
                case measure => simp [intOf]; omega
              · have hx0' : (x != 0) = true := by rw [bne_iff_ne]; exact hx0
                go_wp2
                go_ret2
                exact ⟨_, _, rfl, HB7.out, fun h => absurd h hx0⟩
      · obtain rfl : k = nX := by omega
        have HR : Hid (TextsOk l nT) := hide (fun t ht => by
          obtain ⟨i, hi, e⟩ := List.getElem_of_mem ht
          exact HG.out i (by have := HT.out.len; omega) t (by rw [List.getElem?_eq_getElem hi, e]))
        clear hkn
        go_wp2
        go_ret2
        exact ⟨_, _, rfl, HBB.out, fun _ => HR.out⟩
end Go.Proofs.YtbpkclopcoaikaaGreatDoor
