/- The walk of the reference's Crash. -/
import Derived.Test.YtjpmfiicbokdcaaDnW
namespace Go.Proofs.Ytjpmfiicbokdcaa
open Go.RowKit
set_option linter.unusedVariables false
set_option linter.unusedSimpArgs false
/-- A file behind a crash: how much of it was kept, how much of that is zero. -/
def keptP (ch : List Int) (j : Nat) (e : Ent) : Int := choM ch (2 * j + 1) ((e.1.length : Int) - e.2 + 1)
def zeroP (ch : List Int) (j : Nat) (e : Ent) : Int := choM ch (2 * j + 2) (min (keptP ch j e) 4 + 1)
def cutM (ch : List Int) (j : Nat) (e : Ent) : Ent := (e.1.take (e.2 + keptP ch j e - zeroP ch j e).toNat ++ List.replicate (zeroP ch j e).toNat 0, e.2 + keptP ch j e)
def cutK (ch : List Int) (k : Nat) (l : List Ent) : List Ent := l.mapIdx fun j e => if j < k then cutM ch j e else e
def prefM (d : Dsk) (ch : List Int) : Nat := (choM ch 0 ((d.ops.length : Int) + 1)).toNat
def crashM (d : Dsk) (ch : List Int) : Dsk := if validM d then setM ⟨cutK ch d.inodes.length d.inodes, (repM d.dur (firstM d) (d.ops.take (prefM d ch))).getD [], d.dur, d.ops⟩ else .nil
theorem cutK_len (ch : List Int) (k : Nat) (l : List Ent) : (cutK ch k l).length = l.length := by simp [cutK]
theorem cutK_get (ch : List Int) (k : Nat) (l : List Ent) (j : Nat) : (cutK ch k l)[j]? = (l[j]?).map fun e => if j < k then cutM ch j e else e := by simp [cutK, List.getElem?_mapIdx]
theorem cutK_zero (ch : List Int) (l : List Ent) : cutK ch 0 l = l := by
  apply List.ext_getElem?
  intro i
  rw [cutK_get]
  simp
theorem cutK_set (ch : List Int) (k : Nat) (l : List Ent) (e : Ent) (h : l[k]? = some e) : (cutK ch k l).set k (cutM ch k e) = cutK ch (k + 1) l := by
  have hk : k < l.length := (List.getElem?_eq_some_iff.1 h).1
  apply List.ext_getElem?
  intro i
  rw [List.getElem?_set, cutK_get, cutK_get, cutK_len]
  by_cases hi : k = i
  · subst hi
    rw [if_pos rfl, if_pos hk, h]
    simp
  · rw [if_neg hi]
    congr 1
    funext x
    by_cases h1 : i < k
    · rw [if_pos h1, if_pos (by omega)]
    · rw [if_neg h1, if_neg (by omega)]
theorem cut_range {ch : List Int} {j : Nat} {e : Ent} (h0 : 0 ≤ e.2) (h1 : e.2 ≤ e.1.length) : 0 ≤ keptP ch j e ∧ e.2 + keptP ch j e ≤ e.1.length ∧ 0 ≤ zeroP ch j e ∧ zeroP ch j e ≤ keptP ch j e ∧ zeroP ch j e ≤ 4 := by
  have a := choM_range ch (2 * j + 1) ((e.1.length : Int) - e.2 + 1) (by omega)
  have b := choM_range ch (2 * j + 2) (min (keptP ch j e) 4 + 1) (by unfold keptP; omega)
  unfold keptP at b ⊢
  unfold zeroP keptP
  omega
theorem cutM_len {ch : List Int} {j : Nat} {e : Ent} (h0 : 0 ≤ e.2) (h1 : e.2 ≤ e.1.length) : (((cutM ch j e).1.length : Nat) : Int) = (cutM ch j e).2 := by
  obtain ⟨a, b, c, d, _⟩ := cut_range (ch := ch) (j := j) h0 h1
  unfold cutM
  simp only [List.length_append, List.length_take, List.length_replicate]
  omega
/-! ### What replay yields -/
theorem rep_take {l : List Ent} {nx : Int} {os : List DOp} {r : List Ent} (h : repM l nx os = some r) : ∀ q, ∃ r', repM l nx (os.take q) = some r' := by
  induction os generalizing l nx with
  | nil => intro q; exact ⟨l, by simp [repM]⟩
  | cons o os ih =>
    intro q
    cases q with
    | zero => exact ⟨l, by simp [repM]⟩
    | succ q =>
      rw [List.take_succ_cons]
      unfold repM at h ⊢
      split at h
      · rename_i h0
        rw [if_pos h0]
        exact ih h q
      · cases h
def inR (n : Int) (l : List Ent) : Prop := ∀ e ∈ l, 0 ≤ e.2 ∧ e.2 < n
theorem inR.mono {n m : Int} {l : List Ent} (h : inR n l) (hm : n ≤ m) : inR m l := fun e he => ⟨(h e he).1, by have := (h e he).2; omega⟩
theorem step_inR {l : List Ent} {o : DOp} {nx : Int} (h : inR nx l) (hn : 0 ≤ nx) (h0 : (stepM l o nx).2 = 0) : inR (if o.1 = 1 then nx + 1 else nx) (stepM l o nx).1 := by
  intro e he
  unfold stepM at he h0
  by_cases h1 : o.1 = 1
  · rw [if_pos h1] at he h0 ⊢
    split at he
    · simp at he
    · split at he
      · simp at he
      · split at he
        · simp at he
        · rcases mem_ins he with rfl | he
          · exact ⟨hn, by simp only []; omega⟩
          · have := h e he; omega
  · rw [if_neg h1] at he h0 ⊢
    by_cases h4 : o.1 = 4
    · rw [if_pos h4] at he h0
      split at he
      · simp at he
      · split at he
        · simp at he
        · rename_i hh
          split at he
          · simp at he
          · split at he
            · simp at he
            · rcases mem_ins he with rfl | he
              · simp only []
                unfold inoM
                rcases hf : l.find? (fun e => e.1 == o.2.1) with _ | e0
                · exfalso
                  apply hh
                  unfold hasM
                  rw [List.any_eq_false]
                  intro e he
                  simpa using List.find?_eq_none.1 hf e he
                · rw [hf]; exact h e0 (List.mem_of_find?_eq_some hf)
              · exact h e (mem_drop (mem_drop he))
    · rw [if_neg h4] at he h0
      by_cases h5 : o.1 = 5
      · rw [if_pos h5] at he h0
        split at he
        · simp at he
        · split at he
          · simp at he
          · exact h e (mem_drop he)
      · rw [if_neg h5] at he
        simp at he
theorem rep_inR {os : List DOp} : ∀ {l : List Ent} {nx : Int} {r : List Ent}, inR nx l → 0 ≤ nx → repM l nx os = some r → inR (nx + (creM os : Nat)) r := by
  induction os with
  | nil =>
    intro l nx r h hn hr
    simp [repM] at hr
    subst hr
    exact h.mono (by simp [creM])
  | cons o os ih =>
    intro l nx r h hn hr
    unfold repM at hr
    split at hr
    · rename_i h0
      have h1 := step_inR h hn h0
      have h2 := ih h1 (by split <;> omega) hr
      refine h2.mono ?_
      unfold creM
      rw [List.countP_cons]
      by_cases hk : o.1 = 1
      · rw [if_pos hk]; simp [hk]; omega
      · rw [if_neg hk]; simp [hk]
    · cases hr
theorem rep_len {os : List DOp} : ∀ {l : List Ent} {nx : Int} {r : List Ent}, repM l nx os = some r → r.length ≤ l.length + os.length := by
  induction os with
  | nil =>
    intro l nx r hr
    simp [repM] at hr
    subst hr
    simp
  | cons o os ih =>
    intro l nx r hr
    unfold repM at hr
    split at hr
    · have h1 := ih hr
      have h2 := step_len l o nx
      simp only [List.length_cons]
      omega
    · cases hr
theorem pref_ok {d : Dsk} (h : validM d = true) (q : Nat) : ∃ l, repM d.dur (firstM d) (d.ops.take q) = some l ∧ inR d.inodes.length l ∧ l.length ≤ d.dur.length + d.ops.length := by
  obtain ⟨h1, h2, h3, h4, h5, h6⟩ := (valid_iff d).1 h
  obtain ⟨l, hl⟩ := rep_take h6 q
  refine ⟨l, hl, (rep_inR (fun e he => ⟨(dirM_all h2 e he).1, h4 e he⟩) h3 hl).mono ?_, by have := rep_len hl; have : (d.ops.take q).length ≤ d.ops.length := List.length_take_le' _ _; omega⟩
  have : creM (d.ops.take q) ≤ creM d.ops := by
    unfold creM
    exact (List.take_sublist q d.ops).countP_le
  unfold firstM
  omega
/-- A pair of a row of one's own and true. -/
def FreshT (base n : Nat) (xs : List Value) : Value → World → Prop := fun v w => ∃ u, v = .tuple #[u, .bool true] ∧ FreshE base n xs u w
theorem stab_freshT (base n : Nat) (xs : List Value) : Stab (.p (FreshT base n xs)) := fun u w w' hb ⟨v, h1, h2⟩ => ⟨v, h1, stab_freshE base n xs v w w' hb h2⟩
theorem zeros_ext (z : Nat) (h : z ≤ 4) : (⟨#[0, 0, 0, 0]⟩ : ByteArray).extract 0 z = bstr (List.replicate z 0) := by
  have : z = 0 ∨ z = 1 ∨ z = 2 ∨ z = 3 ∨ z = 4 := by omega
  rcases this with rfl | rfl | rfl | rfl | rfl <;> rfl
set_option maxHeartbeats 16000000 in
set_option maxRecDepth 100000 in
theorem rcrash_any (v : Value) (d : Dsk) (ca : Option Addr) (cn cc : Nat) (ch : List Int) (w : World) (h : IsD w v d) (hsk : szK 40000 d) (hch : Rd w ca (ch.map (Value.int .i64))) (hcn : cn = ch.length) :
    Calls Try.prog 22 #[v, .slice ca cn cc] w fun e w' => ∃ u, e = .returned u ∧ IsD w' u (crashM d ch) ∧ Below w.heap.size w w' := by
  have hs : szD d := hsk.szD (by decide)
  have HSK := hide hsk
  have HD0 := hide h
  obtain ⟨a1, n1, c1, a2, n2, c2, a3, n3, c3, a4, n4, c4, rfl, h1, h2, h3, h4, g1, g2, g3, g4⟩ := h.h
  have H1 := hide h1
  have H2 := hide h2
  have H3 := hide h3
  have H4 := hide h4
  have G := hide (And.intro g1 (And.intro g2 (And.intro g3 g4)))
  have HCH := hide hch
  have HCN := hide hcn
  have hn1 : n1 ≤ 100000 := by rw [h1.1]; exact hs.1
  have hn4 : n4 ≤ 100000 := by rw [h4.1]; exact hs.2.2.2
  obtain ⟨r, hr⟩ : ∃ r, r = crashM d ch := ⟨_, rfl⟩
  have HR := hide hr
  rw [← hr]
  have HV := hide (fun (wx : World) (hb : Below w.heap.size w wx) => rvalidate_any _ d wx (h.below hb) hs)
  have HCP := hide (fun (wx : World) (hb : Below w.heap.size w wx) => rcopied_any a1 n1 c1 a2 n2 c2 a3 n3 c3 a4 n4 c4 d wx (h1.below hb) (h4.below hb) hs)
  have HCO := hide (fun (wx : World) (hb : Below w.heap.size w wx) (i : Nat) (n : Int) (hi : i ≤ 1000000000) (hn1 : 1 ≤ n) (hn : n ≤ 1000000000) => rchoice_any ca cn cc ch i n wx (hch.below hb) hcn hi hn1 hn)
  have HLN := hide h4.1
  obtain ⟨er, her⟩ : ∃ er, er = errM d := ⟨_, rfl⟩
  have HER := hide her
  rw [← her] at HV
  have HS := hide hs
  clear h h1 h2 h3 h4 hr her hs hsk g1 g2 g3 g4 hch hcn
  obtain ⟨W2, hW2⟩ : ∃ W2, W2 = (w.alloc (.cells [.slice a1 n1 c1, .slice a2 n2 c2, .slice a3 n3 c3, .slice a4 n4 c4].toArray 27)).alloc (.cells [.slice none 0 0, .slice none 0 0, .slice none 0 0, .slice none 0 0].toArray 27) := ⟨_, rfl⟩
  have B0 := hide (show Blk W2 w.heap.size [.slice a1 n1 c1, .slice a2 n2 c2, .slice a3 n3 c3, .slice a4 n4 c4] 27 by rw [hW2]; exact (Blk.new w _ _).alloc _)
  have B1 := hide (show Blk W2 (w.heap.size + 1) [.slice none 0 0, .slice none 0 0, .slice none 0 0, .slice none 0 0] 27 by rw [hW2]; exact Blk.newG (by simp) _ _)
  have HB2 := hide (show Below w.heap.size w W2 by rw [hW2]; exact bl_alloc (bl_alloc (bl_refl w) _) _)
  have HW2 := hide hW2
  clear hW2
  go_enter Try.func22, Try.ntmps22
  go_wp2_with fail
  rw [← HW2.out]
  clear HW2
  refine (HV.out W2 HB2.out).mono ?_
  rintro e w1 ⟨rfl, hb1⟩
  have C0 := hide (B0.out.below hb1)
  have C1 := hide (B1.out.below hb1)
  have HB1 := hide (HB2.out.trans (hb1.mono HB2.out.size))
  clear hb1 B0 B1 HB2
  have y0 : w1.cell? ⟨w.heap.size + 1, 0, none⟩ = some _ := C1.out.cell rfl
  have y1 : w1.cell? ⟨w.heap.size + 1, 1, none⟩ = some _ := C1.out.cell rfl
  have y2 : w1.cell? ⟨w.heap.size + 1, 2, none⟩ = some _ := C1.out.cell rfl
  have y3 : w1.cell? ⟨w.heap.size + 1, 3, none⟩ = some _ := C1.out.cell rfl
  have l1 := C1.out.lt
  have f1 := C1.out.fr
  cases hvd : validM d with
  | false =>
    obtain rfl : er = 9 := by rw [HER.out]; unfold errM; rw [hvd]; rfl
    have hr : r = .nil := by rw [HR.out]; unfold crashM; rw [hvd]; rfl
    have HRR := hide hr
    clear hvd hr
    go_wp2
    refine bodyPost_ret (results_cell_row Try.results22 _ _ (w.heap.size + 1) 27 #[.slice none 0 0, .slice none 0 0, .slice none 0 0, .slice none 0 0] (0, 0) _ rfl (C1.out.set4 _ _ _ _) Try.underlying27 rfl (by kernel_rfl)) rfl ?_
    rw [HRR.out]
    exact ⟨_, rfl, isD_nil _, bl_set4 HB1.out (by omega) _ _ _ _⟩
  | true =>
    obtain rfl : er = 0 := by rw [HER.out]; unfold errM; rw [hvd]; rfl
    obtain ⟨l, hl, hlr, hln⟩ := pref_ok hvd (prefM d ch)
    have HLL := hide (show l.length ≤ 100000 by have := HSK.out.2.2.1; have := HSK.out.2.2.2; omega)
    have hq := choM_range ch 0 ((d.ops.length : Int) + 1) (by omega)
    have hqn : choM ch 0 ((d.ops.length : Int) + 1) = ((prefM d ch : Nat) : Int) := (Int.toNat_of_nonneg hq.1).symm
    have HPQ := hide hqn
    have HRP := hide (fun (wx : World) (hb : Below w.heap.size w wx) => rreplay_any _ d (prefM d ch) wx (HD0.out.below hb) (by omega) ⟨HS.out.1, HS.out.2.2.1, HS.out.2.2.2⟩ (dir_nn ((valid_iff d).1 hvd).2.1) ((valid_iff d).1 hvd).2.2.1)
    have HLR := hide hlr
    have hr : r = setM ⟨cutK ch d.inodes.length d.inodes, l, d.dur, d.ops⟩ := by rw [HR.out]; unfold crashM; rw [hvd, hl]; rfl
    have HRR := hide hr
    rw [hl] at HRP
    obtain ⟨pq, hpq⟩ : ∃ pq, pq = prefM d ch := ⟨_, rfl⟩
    rw [← hpq] at HPQ HRP
    rw [← HLN.out] at HPQ
    have HIN := hide ((valid_iff d).1 hvd).2.2.2.2.1
    clear hvd hr hl hlr hln hq hqn hpq HR
    go_wp2_with fail
    have HCC := hide (fun (wx : World) (hC : CB w1.drew wx) => show wx.cell? ⟨w.heap.size, 0, none⟩ = some (.slice a1 n1 c1) ∧ wx.cell? ⟨w.heap.size, 1, none⟩ = some (.slice a2 n2 c2) ∧ wx.cell? ⟨w.heap.size, 2, none⟩ = some (.slice a3 n3 c3) ∧ wx.cell? ⟨w.heap.size, 3, none⟩ = some (.slice a4 n4 c4) from ⟨(C0.out.below hC.below).cell rfl, (C0.out.below hC.below).cell rfl, (C0.out.below hC.below).cell rfl, (C0.out.below hC.below).cell rfl⟩)
    have ew : IntKind.i64.wrap ((n4 : Int) + 1) = (n4 : Int) + 1 := by rw [IntKind.wrap_i64]; omega
    refine wp_region_K 12 (by kernel_rfl) (by kernel_rfl) (fun Q HQ => ?_)
    simp only [List.take_succ_cons, List.take_zero, List.map_cons, List.map_nil]
    have HC0 := hide (fun (wx : World) (hb : Below w.heap.size w wx) => show Calls Try.prog 53 #[.slice ca cn cc, .int .i64 0, .int .i64 ((n4 : Int) + 1)] wx fun e w' => e = .returned (.int .i64 (pq : Int)) ∧ wx = w' from by
      rw [← HPQ.out]; exact HCO.out wx hb 0 ((n4 : Int) + 1) (by omega) (by omega) (by omega))
    repeat
      first | apply wpS_c rfl | apply wpS_gc rfl (guard_mk rfl rfl)
      focus
        intro ev wx hC hx
        (try simp [Op.operands, Call.operands, opndS, Slot.holds] at hx)
        obtain ⟨k0, k1, k2, k3⟩ := HCC.out wx hC
        go_simp
        try (first | exact rfl | exact ⟨Below.refl _ _, rfl⟩ | (go_at_call 53; refine (HC0.out _ (HB1.out.trans (hC.below.mono HB1.out.size))).mono ?_; rintro e w' ⟨rfl, rfl⟩; exact ⟨rfl, bl_refl _⟩))
        done
      dsimp only [setS, List.set]
    refine wpS_p (R := FreshT w1.heap.size l.length (l.flatMap encE)) rfl (stab_freshT _ _ _) ?_ ?_
    focus
      intro ev wx hC hx
      (try simp [Op.operands, Call.operands, opndS, Slot.holds] at hx)
      go_simp
      refine (HRP.out _ (HB1.out.trans (hC.below.mono HB1.out.size))).mono ?_
      rintro e w' ⟨hb, -, ho⟩
      obtain ⟨v, rfl, hown⟩ := ho l rfl
      exact ⟨_, rfl, hb, v, rfl, Nat.le_trans hC.below.size hb.size, own_baseG hown hC.below.size⟩
    dsimp only [setS, List.set]
    refine wpS_p (R := FreshT w1.heap.size l.length (l.flatMap encE)) rfl (stab_freshT _ _ _) ?_ ?_
    focus
      intro ev wx hC hx
      (try simp [Op.operands, Call.operands, opndS, Slot.holds] at hx)
      go_simp
      exact bl_refl _
    dsimp only [setS, List.set]
    refine wpS_p (R := FreshE w1.heap.size l.length (l.flatMap encE)) rfl (stab_freshE _ _ _) ?_ ?_
    focus
      intro ev wx hC hx
      (try simp [Op.operands, Call.operands, opndS, Slot.holds] at hx)
      obtain ⟨u, hu, hfu⟩ := hx
      go_simp
      exact bl_refl _
    dsimp only [setS, List.set]
    refine wpS_c (v := .bool true) rfl ?_ ?_
    focus
      intro ev wx hC hx
      (try simp [Op.operands, Call.operands, opndS, Slot.holds] at hx)
      obtain ⟨u, hu, hfu⟩ := hx
      go_simp
      exact bl_refl _
    dsimp only [setS, List.set]
    refine wpS_p (R := FreshE w1.heap.size l.length (l.flatMap encE)) rfl (stab_freshE _ _ _) ?_ ?_
    focus
      intro ev wx hC hx
      (try simp [Op.operands, Call.operands, opndS, Slot.holds] at hx)
      go_simp
      exact bl_refl _
    dsimp only [setS, List.set]
    refine wpS_nil (HQ _ fun w4 hC4 => ?_)
    simp only [closeS, List.drop_succ_cons, List.drop_zero, List.drop_nil]
    rintro v5 ⟨-, h5⟩ va - vb - vc -
    obtain ⟨A5, p5, rfl, hp5, hm5, -⟩ := own_RE h5 rfl
    have hb4 := hC4.below
    have D0 := hide (C0.out.below hb4)
    have D1 := hide (C1.out.below hb4)
    have HB4 := hide (HB1.out.trans (hb4.mono HB1.out.size))
    have HO5 := hide (own_baseG h5 (show w.heap.size + 1 + 1 ≤ w1.heap.size by omega))
    clear hb4 hC4 HQ h5 C0 C1 HB1 y0 y1 y2 y3 l1 f1 HCC ew
    have d0 : w4.cell? ⟨w.heap.size, 0, none⟩ = some _ := D0.out.cell rfl
    have d1 : w4.cell? ⟨w.heap.size, 1, none⟩ = some _ := D0.out.cell rfl
    have d2 : w4.cell? ⟨w.heap.size, 2, none⟩ = some _ := D0.out.cell rfl
    have d3 : w4.cell? ⟨w.heap.size, 3, none⟩ = some _ := D0.out.cell rfl
    have l0 := D0.out.lt
    go_wp2_with fail
    refine (HCP.out w4 HB4.out).mono ?_
    rintro e w5 ⟨v1, v4, rfl, ho1, ho4, hap, hb5⟩
    obtain ⟨A1, p1, rfl, hp1, hr1⟩ := ownG_form ho1
    obtain ⟨A4, p4, rfl, hp4, hr4⟩ := ownG_form ho4
    clear hr1 hr4 d0 d1 d2 d3
    have E0 := hide (D0.out.below hb5)
    have E1 := hide (D1.out.below hb5)
    have EO5 := hide (ownG_below HO5.out hb5)
    have HAP := hide (show ∀ q, (Value.slice A1 d.inodes.length p1).ownBlock = some q → (Value.slice A4 d.ops.length p4).ownBlock ≠ some q ∧ (Value.slice A5 l.length p5).ownBlock ≠ some q from fun q hq => ⟨hap q hq, fun h => by have := (ownG_lt HO5.out h).2; have := (ownG_lt ho1 hq).1; omega⟩)
    have hl4 := D1.out.lt
    have EO1 := hide (own_baseG ho1 (show w.heap.size + 1 + 1 ≤ w4.heap.size by omega))
    have EO4 := hide (own_baseG ho4 (show w.heap.size + 1 + 1 ≤ w4.heap.size by omega))
    have HB5 := hide (HB4.out.trans (hb5.mono HB4.out.size))
    clear ho1 ho4 hap hb5 D0 D1 HO5 HB4 hl4
    have d0 : w5.cell? ⟨w.heap.size, 0, none⟩ = some _ := E0.out.cell rfl
    have d1 : w5.cell? ⟨w.heap.size, 1, none⟩ = some _ := E0.out.cell rfl
    have d2 : w5.cell? ⟨w.heap.size, 2, none⟩ = some _ := E0.out.cell rfl
    have d3 : w5.cell? ⟨w.heap.size, 3, none⟩ = some _ := E0.out.cell rfl
    have l0' := E0.out.lt
    have f0 := E0.out.fr
    obtain ⟨W6, hW6⟩ : ∃ W6, W6 = (set4 w5 w.heap.size (.slice A1 d.inodes.length p1) (.slice a2 n2 c2) (.slice a3 n3 c3) (.slice A4 d.ops.length p4)).setCell ⟨w.heap.size, 1, none⟩ (.slice A5 l.length p5) := ⟨_, rfl⟩
    have F0 := hide (show Blk W6 w.heap.size [.slice A1 d.inodes.length p1, .slice A5 l.length p5, .slice a3 n3 c3, .slice A4 d.ops.length p4] 27 by rw [hW6]; exact (E0.out.set4 _ _ _ _).set 1 _)
    have F1 := hide (show Blk W6 (w.heap.size + 1) _ _ by rw [hW6]; exact (E1.out.set4ne (by omega) _ _ _ _).setne (by omega) _ _)
    have FO1 := hide (show W6.ownsRow (w.heap.size + 1 + 1) 33 2 (.slice A1 d.inodes.length p1) d.inodes.length (d.inodes.flatMap encE) by rw [hW6]; exact ownG_setlt (ownG_set4 EO1.out (own_ne EO1.out (by omega)) _ _ _ _) (by omega) _ _)
    have FO4 := hide (show W6.ownsRow (w.heap.size + 1 + 1) 48 4 (.slice A4 d.ops.length p4) d.ops.length (d.ops.flatMap encO) by rw [hW6]; exact ownG_setlt (ownG_set4 EO4.out (own_ne EO4.out (by omega)) _ _ _ _) (by omega) _ _)
    have FO5 := hide (show W6.ownsRow (w.heap.size + 1 + 1) 35 2 (.slice A5 l.length p5) l.length (l.flatMap encE) by rw [hW6]; exact ownG_setlt (ownG_set4 EO5.out (own_ne EO5.out (by omega)) _ _ _ _) (by omega) _ _)
    have HB6 := hide (show Below w.heap.size w W6 by rw [hW6]; exact bl_setG (bl_set4 HB5.out (Nat.le_refl _) _ _ _ _) (Nat.le_refl _) _ _)
    have HW6 := hide (show (set4 w5 w.heap.size (.slice A1 d.inodes.length p1) (.slice a2 n2 c2) (.slice a3 n3 c3) (.slice A4 d.ops.length p4)).setCell ⟨w.heap.size, 1, none⟩ (.slice A5 l.length p5) = W6 from hW6.symm)
    unfold set4 at HW6
    clear hW6 E0 E1 EO1 EO4 EO5 HB5
    go_wp2_with fail
    rw [HW6.out]
    clear HW6 d0 d1 d2 d3 l0 l0' f0
    obtain ⟨N, hN⟩ : ∃ N, N = d.inodes.length := ⟨_, rfl⟩
    have HNN := hide hN
    rw [← hN] at F0 FO1 HAP HRR ⊢
    have hN9 : N ≤ 100000 := by rw [hN]; exact HS.out.1
    clear hN
    rw [← cutK_zero ch d.inodes] at FO1
    go_loopw [33] (fun kv wr => ∃ (k : Nat), kv = .int .i64 (k : Int) ∧ k ≤ N ∧ Hid (Blk wr w.heap.size [.slice A1 N p1, .slice A5 l.length p5, .slice a3 n3 c3, .slice A4 d.ops.length p4] 27) ∧ Hid (Blk wr (w.heap.size + 1) [.slice none 0 0, .slice none 0 0, .slice none 0 0, .slice none 0 0] 27) ∧ Hid (wr.ownsRow (w.heap.size + 1 + 1) 33 2 (.slice A1 N p1) N ((cutK ch k d.inodes).flatMap encE)) ∧ Hid (wr.ownsRow (w.heap.size + 1 + 1) 48 4 (.slice A4 d.ops.length p4) d.ops.length (d.ops.flatMap encO)) ∧ Hid (wr.ownsRow (w.heap.size + 1 + 1) 35 2 (.slice A5 l.length p5) l.length (l.flatMap encE)) ∧ Hid (Below w.heap.size w wr)) (fun kv _ => N - (intOf kv).toNat)
    case atStart => exact ⟨0, rfl, by omega, F0, F1, FO1, FO4, FO5, HB6⟩
    case round =>
      clear F0 F1 FO1 FO4 FO5 HB6
      obtain ⟨k, rfl, hk, F0, F1, FO1, FO4, FO5, HB6⟩ := hrel
      have d0 : wr.cell? ⟨w.heap.size, 0, none⟩ = some _ := F0.out.cell rfl
      by_cases hlt : k < N
      · obtain ⟨⟨xd, xs⟩, hx⟩ : ∃ e, d.inodes[k]? = some e := ⟨_, List.getElem?_eq_getElem (by rw [← HNN.out]; exact hlt)⟩
        have hxk : (cutK ch k d.inodes)[k]? = some (xd, xs) := by rw [cutK_get, hx]; simp
        have HX := hide hx
        have HXK := hide hxk
        obtain ⟨hs0, hs1, hxl⟩ : 0 ≤ xs ∧ xs ≤ xd.length ∧ xd.length ≤ 1048576 := by
          have := HIN.out k _ hx
          unfold inodeM at this
          simp only [Bool.and_eq_true, decide_eq_true_eq] at this
          exact ⟨this.1.1.2, this.1.2, this.2⟩
        obtain ⟨g1, cur, rfl, hg1, -⟩ := ownG_inv FO1.out (by omega)
        obtain ⟨x0, fx0⟩ := ownG_at FO1.out (flat_get encE_len _ k 0 _ _ hxk rfl)
        obtain ⟨x1, fx1⟩ := ownG_at FO1.out (flat_get encE_len _ k 1 _ _ hxk rfl)
        rw [Nat.add_zero] at x0 fx0
        have hkn : (k : Int) < (N : Int) := by omega
        clear hx hxk
        go_wp2_with fail
        have HC5 := hide (fun (wx : World) (hC : CB wr.drew wx) => show wx.cell? ⟨g1, k * 2, none⟩ = some (.string (bstr xd)) ∧ wx.cell? ⟨g1, k * 2 + 1, none⟩ = some (.int .i64 xs) from ⟨hC.cell x0, hC.cell x1⟩)
        refine wp_region_K 15 (by kernel_rfl) (by kernel_rfl) (fun Q HQ => ?_)
        simp only [List.take_succ_cons, List.take_zero, List.map_cons, List.map_nil]
        repeat
          first | apply wpS_c rfl | apply wpS_gc rfl (guard_mk rfl rfl)
          focus
            intro ev wx hC hx
            (try simp [Op.operands, Call.operands, opndS, Slot.holds] at hx)
            obtain ⟨k0, k1⟩ := HC5.out wx hC
            go_simp
            try (first | exact rfl | exact ⟨Below.refl _ _, rfl⟩)
            done
          dsimp only [setS, List.set]
        refine wpS_nil (HQ _ fun w6 hC6 => ?_)
        simp only [closeS, List.drop_succ_cons, List.drop_zero, List.drop_nil]
        have hb6 := hC6.below
        have E0 := hide (F0.out.below hb6)
        have E1 := hide (F1.out.below hb6)
        have EO1 := hide (ownG_below FO1.out hb6)
        have EO4 := hide (ownG_below FO4.out hb6)
        have EO5 := hide (ownG_below FO5.out hb6)
        have HB7 := hide (HB6.out.trans (hb6.mono HB6.out.size))
        clear hb6 hC6 HQ F0 F1 FO1 FO4 FO5 HB6 d0 x0 fx0 x1 fx1 HC5
        have e43 : IntKind.i64.wrap (IntKind.i64.wrap (2 * (k : Int)) + 1) = 2 * (k : Int) + 1 := by rw [wrap_ok (x := 2 * (k : Int)) (by omega) (by omega), wrap_ok (by omega) (by omega)]
        have e54 : IntKind.i64.wrap (IntKind.i64.wrap (((bstr xd).size : Int) - xs) + 1) = (xd.length : Int) - xs + 1 := by rw [bstr_size, wrap_ok (x := (xd.length : Int) - xs) (by omega) (by omega), wrap_ok (by omega) (by omega)]
        rw [e43, e54]
        clear e43 e54
        obtain ⟨q0, q1, q2, q3, q4⟩ := cut_range (ch := ch) (j := k) (e := (xd, xs)) hs0 hs1
        obtain ⟨p, hp⟩ : ∃ p, p = keptP ch k (xd, xs) := ⟨_, rfl⟩
        obtain ⟨z, hz⟩ : ∃ z, z = zeroP ch k (xd, xs) := ⟨_, rfl⟩
        rw [← hp] at q0 q1 q3
        rw [← hz] at q2 q3 q4
        have HP := hide hp
        have HZ := hide hz
        have hp' : p = choM ch (2 * k + 1) ((xd.length : Int) - xs + 1) := hp
        have hz' : z = choM ch (2 * k + 2) (min p 4 + 1) := by rw [hz]; unfold zeroP; rw [← hp]
        have i1 : 2 * k + 1 ≤ 1000000000 := by omega
        have i2 : 2 * k + 2 ≤ 1000000000 := by omega
        have j1 : 1 ≤ (xd.length : Int) - xs + 1 := by omega
        have j2 : (xd.length : Int) - xs + 1 ≤ 1000000000 := by omega
        have j3 : 1 ≤ min p 4 + 1 := by omega
        have j4 : min p 4 + 1 ≤ 1000000000 := by omega
        have hc1 := HCO.out w6 HB7.out (2 * k + 1) ((xd.length : Int) - xs + 1) i1 j1 j2
        have hc2 := HCO.out w6 HB7.out (2 * k + 2) (min p 4 + 1) i2 j3 j4
        rw [← hp', show ((2 * k + 1 : Nat) : Int) = 2 * (k : Int) + 1 by push_cast; rfl] at hc1
        rw [← hz', show ((2 * k + 2 : Nat) : Int) = 2 * (k : Int) + 2 by push_cast; rfl] at hc2
        have HC1 := hide hc1
        have HC2 := hide hc2
        clear hc1 hc2 i1 i2 j1 j2 j3 j4 hp' hz'
        simp only [] at q1
        clear hp hz
        go_wp2_with fail
        refine HC1.out.mono ?_
        rintro e w' ⟨rfl, rfl⟩
        go_wp2_with fail
        · rw [show min p 4 + 1 = (5 : Int) by omega] at HC2
          refine HC2.out.mono ?_
          rintro e w' ⟨rfl, rfl⟩
          go_wp2_with fail
          obtain ⟨x0, fx0⟩ := ownG_at EO1.out (flat_get encE_len _ k 0 _ _ HXK.out rfl)
          obtain ⟨x1, fx1⟩ := ownG_at EO1.out (flat_get encE_len _ k 1 _ _ HXK.out rfl)
          rw [Nat.add_zero] at x0 fx0
          have HC5 := hide (fun (wx : World) (hC : CB w6.drew wx) => show wx.cell? ⟨g1, k * 2, none⟩ = some (.string (bstr xd)) ∧ wx.cell? ⟨g1, k * 2 + 1, none⟩ = some (.int .i64 xs) from ⟨hC.cell x0, hC.cell x1⟩)
          have e74 : IntKind.i64.wrap (xs + p) = xs + p := wrap_ok (by omega) (by omega)
          have e76 : IntKind.i64.wrap (xs + p - z) = xs + p - z := wrap_ok (by omega) (by omega)
          have c77 : z ≤ xs + p := by omega
          have d77 : xs + p - z ≤ ((bstr xd).size : Int) := by rw [bstr_size]; omega
          have y80 : ¬ 9223372036854775807 < (xs + p - z).toNat + z.toNat := by omega
          obtain ⟨⟨nd, ns⟩, hcm⟩ : ∃ e, e = cutM ch k (xd, xs) := ⟨_, rfl⟩
          have hns : ns = xs + p ∧ (nd.length : Int) = xs + p := by
            have h2 : ns = (cutM ch k (xd, xs)).2 := by rw [← hcm]
            have h1 : nd = (cutM ch k (xd, xs)).1 := by rw [← hcm]
            have h3 : ns = xs + p := by rw [h2]; unfold cutM; rw [← HP.out]
            exact ⟨h3, by rw [h1, cutM_len hs0 hs1, ← h2, h3]⟩
          have HNS := hide hns
          have HND := hide (show (bstr xd).extract 0 (xs + p - z).toNat ++ (⟨#[0, 0, 0, 0]⟩ : ByteArray).extract 0 z.toNat = bstr nd by
            rw [str_sub rfl, zeros_ext _ (by omega), bstr_app, List.drop_zero, show nd = (cutM ch k (xd, xs)).1 by rw [← hcm]]
            unfold cutM
            rw [← HP.out, ← HZ.out])
          have HCM := hide hcm
          clear hns hcm
          refine wp_region_K 19 (by kernel_rfl) (by kernel_rfl) (fun Q HQ => ?_)
          simp only [List.take_succ_cons, List.take_zero, List.map_cons, List.map_nil]
          repeat
            first | apply wpS_c rfl | apply wpS_gc rfl (guard_mk rfl rfl)
            focus
              intro ev wx hC hx
              (try simp [Op.operands, Call.operands, opndS, Slot.holds] at hx)
              obtain ⟨k0, k1⟩ := HC5.out wx hC
              go_simp
              try (first | exact rfl | exact ⟨Below.refl _ _, rfl⟩)
              done
            dsimp only [setS, List.set]
          refine wpS_nil (HQ _ fun w7 hC7 => ?_)
          simp only [closeS, List.drop_succ_cons, List.drop_zero, List.drop_nil]
          rw [HND.out]
          have hb7 := hC7.below
          have I0 := hide (E0.out.below hb7)
          have I1 := hide (E1.out.below hb7)
          have IO1 := hide (ownG_below EO1.out hb7)
          have IO4 := hide (ownG_below EO4.out hb7)
          have IO5 := hide (ownG_below EO5.out hb7)
          have IB := hide (HB7.out.trans (hb7.mono HB7.out.size))
          clear hb7 hC7 HQ E0 E1 EO1 EO4 EO5 HB7 x0 fx0 x1 fx1 HC5 e74 e76 c77 d77 y80
          obtain ⟨x0, fx0⟩ := ownG_at IO1.out (flat_get encE_len _ k 0 _ _ HXK.out rfl)
          obtain ⟨x1, fx1⟩ := ownG_at IO1.out (flat_get encE_len _ k 1 _ _ HXK.out rfl)
          rw [Nat.add_zero] at x0 fx0
          go_wp2
          rw [bstr_size, HNS.out.2, ← HNS.out.1]
          go_roundw
          case rel =>
            have KO0 := ownG_set IO1.out (k * 2) (.string (bstr nd))
            rw [flat_set0 _ k _ nd HXK.out] at KO0
            have KO1 := ownG_set KO0 (k * 2 + 1) (.int .i64 ns)
            rw [flat_set1 _ k (nd, xs) _ (by rw [List.getElem?_set_self (by rw [cutK_len, ← HNN.out]; exact hlt)]), List.set_set, HCM.out, cutK_set ch k d.inodes _ HX.out] at KO1
            refine ⟨k + 1, by go_num, by omega, hide ((I0.out.setne (by omega) _ _).setne (by omega) _ _), hide ((I1.out.setne (by omega) _ _).setne (by omega) _ _), hide KO1, hide (ownG_setne (ownG_setne IO4.out (HAP.out g1 rfl).1 _ _) (HAP.out g1 rfl).1 _ _), hide (ownG_setne (ownG_setne IO5.out (HAP.out g1 rfl).2 _ _) (HAP.out g1 rfl).2 _ _), hide (bl_setG (bl_setG IB.out (by omega) _ _) (by omega) _ _)⟩
          case measure => simp [intOf]; omega
        · rw [show min p 4 + 1 = p + 1 by omega] at HC2
          refine HC2.out.mono ?_
          rintro e w' ⟨rfl, rfl⟩
          go_wp2_with fail
          obtain ⟨x0, fx0⟩ := ownG_at EO1.out (flat_get encE_len _ k 0 _ _ HXK.out rfl)
          obtain ⟨x1, fx1⟩ := ownG_at EO1.out (flat_get encE_len _ k 1 _ _ HXK.out rfl)
          rw [Nat.add_zero] at x0 fx0
          have HC5 := hide (fun (wx : World) (hC : CB w6.drew wx) => show wx.cell? ⟨g1, k * 2, none⟩ = some (.string (bstr xd)) ∧ wx.cell? ⟨g1, k * 2 + 1, none⟩ = some (.int .i64 xs) from ⟨hC.cell x0, hC.cell x1⟩)
          have e74 : IntKind.i64.wrap (xs + p) = xs + p := wrap_ok (by omega) (by omega)
          have e76 : IntKind.i64.wrap (xs + p - z) = xs + p - z := wrap_ok (by omega) (by omega)
          have c77 : z ≤ xs + p := by omega
          have d77 : xs + p - z ≤ ((bstr xd).size : Int) := by rw [bstr_size]; omega
          have y80 : ¬ 9223372036854775807 < (xs + p - z).toNat + z.toNat := by omega
          obtain ⟨⟨nd, ns⟩, hcm⟩ : ∃ e, e = cutM ch k (xd, xs) := ⟨_, rfl⟩
          have hns : ns = xs + p ∧ (nd.length : Int) = xs + p := by
            have h2 : ns = (cutM ch k (xd, xs)).2 := by rw [← hcm]
            have h1 : nd = (cutM ch k (xd, xs)).1 := by rw [← hcm]
            have h3 : ns = xs + p := by rw [h2]; unfold cutM; rw [← HP.out]
            exact ⟨h3, by rw [h1, cutM_len hs0 hs1, ← h2, h3]⟩
          have HNS := hide hns
          have HND := hide (show (bstr xd).extract 0 (xs + p - z).toNat ++ (⟨#[0, 0, 0, 0]⟩ : ByteArray).extract 0 z.toNat = bstr nd by
            rw [str_sub rfl, zeros_ext _ (by omega), bstr_app, List.drop_zero, show nd = (cutM ch k (xd, xs)).1 by rw [← hcm]]
            unfold cutM
            rw [← HP.out, ← HZ.out])
          have HCM := hide hcm
          clear hns hcm
          refine wp_region_K 19 (by kernel_rfl) (by kernel_rfl) (fun Q HQ => ?_)
          simp only [List.take_succ_cons, List.take_zero, List.map_cons, List.map_nil]
          repeat
            first | apply wpS_c rfl | apply wpS_gc rfl (guard_mk rfl rfl)
            focus
              intro ev wx hC hx
              (try simp [Op.operands, Call.operands, opndS, Slot.holds] at hx)
              obtain ⟨k0, k1⟩ := HC5.out wx hC
              go_simp
              try (first | exact rfl | exact ⟨Below.refl _ _, rfl⟩)
              done
            dsimp only [setS, List.set]
          refine wpS_nil (HQ _ fun w7 hC7 => ?_)
          simp only [closeS, List.drop_succ_cons, List.drop_zero, List.drop_nil]
          rw [HND.out]
          have hb7 := hC7.below
          have I0 := hide (E0.out.below hb7)
          have I1 := hide (E1.out.below hb7)
          have IO1 := hide (ownG_below EO1.out hb7)
          have IO4 := hide (ownG_below EO4.out hb7)
          have IO5 := hide (ownG_below EO5.out hb7)
          have IB := hide (HB7.out.trans (hb7.mono HB7.out.size))
          clear hb7 hC7 HQ E0 E1 EO1 EO4 EO5 HB7 x0 fx0 x1 fx1 HC5 e74 e76 c77 d77 y80
          obtain ⟨x0, fx0⟩ := ownG_at IO1.out (flat_get encE_len _ k 0 _ _ HXK.out rfl)
          obtain ⟨x1, fx1⟩ := ownG_at IO1.out (flat_get encE_len _ k 1 _ _ HXK.out rfl)
          rw [Nat.add_zero] at x0 fx0
          go_wp2
          rw [bstr_size, HNS.out.2, ← HNS.out.1]
          go_roundw
          case rel =>
            have KO0 := ownG_set IO1.out (k * 2) (.string (bstr nd))
            rw [flat_set0 _ k _ nd HXK.out] at KO0
            have KO1 := ownG_set KO0 (k * 2 + 1) (.int .i64 ns)
            rw [flat_set1 _ k (nd, xs) _ (by rw [List.getElem?_set_self (by rw [cutK_len, ← HNN.out]; exact hlt)]), List.set_set, HCM.out, cutK_set ch k d.inodes _ HX.out] at KO1
            refine ⟨k + 1, by go_num, by omega, hide ((I0.out.setne (by omega) _ _).setne (by omega) _ _), hide ((I1.out.setne (by omega) _ _).setne (by omega) _ _), hide KO1, hide (ownG_setne (ownG_setne IO4.out (HAP.out g1 rfl).1 _ _) (HAP.out g1 rfl).1 _ _), hide (ownG_setne (ownG_setne IO5.out (HAP.out g1 rfl).2 _ _) (HAP.out g1 rfl).2 _ _), hide (bl_setG (bl_setG IB.out (by omega) _ _) (by omega) _ _)⟩
          case measure => simp [intOf]; omega
      · obtain rfl : k = N := by omega
        have hkn : ¬ (k : Int) < (k : Int) := by omega
        have d1 : wr.cell? ⟨w.heap.size, 1, none⟩ = some _ := F0.out.cell rfl
        have d2 : wr.cell? ⟨w.heap.size, 2, none⟩ = some _ := F0.out.cell rfl
        have d3 : wr.cell? ⟨w.heap.size, 3, none⟩ = some _ := F0.out.cell rfl
        obtain ⟨r5, b5⟩ := own_RE2 FO5.out rfl
        have HST := hide (rsettle_any _ ⟨cutK ch k d.inodes, l, d.dur, d.ops⟩ wr (isD_own FO1.out (by rw [cutK_len]; exact HNN.out) r5 (H3.out.below HB6.out) FO4.out rfl b5 G.out.2.2.1) ⟨by rw [cutK_len, ← HNN.out]; exact hN9, HLL.out, HS.out.2.2.1, HS.out.2.2.2⟩ (fun e he => by simp only [cutK_len]; exact HLR.out e he))
        go_wp2_with fail
        refine HST.out.mono ?_
        rintro e w5 ⟨u, rfl, hu, hb5⟩
        obtain ⟨b1', m1', q1', b2', m2', q2', b3', m3', q3', b4', m4', q4', rfl, -⟩ := hu.h
        have HU := hide hu
        have E1 := hide (F1.out.below hb5)
        have HB5 := hide (HB6.out.trans (hb5.mono HB6.out.size))
        clear hb5 hu r5 b5
        have y0 : w5.cell? ⟨w.heap.size + 1, 0, none⟩ = some _ := E1.out.cell rfl
        have y1 : w5.cell? ⟨w.heap.size + 1, 1, none⟩ = some _ := E1.out.cell rfl
        have y2 : w5.cell? ⟨w.heap.size + 1, 2, none⟩ = some _ := E1.out.cell rfl
        have y3 : w5.cell? ⟨w.heap.size + 1, 3, none⟩ = some _ := E1.out.cell rfl
        have l1 := E1.out.lt
        have f1 := E1.out.fr
        go_wp2
        refine bodyPost_ret (results_cell_row Try.results22 _ _ (w.heap.size + 1) 27 #[.slice b1' m1' q1', .slice b2' m2' q2', .slice b3' m3' q3', .slice b4' m4' q4'] (0, 0) _ rfl (E1.out.set4 _ _ _ _) Try.underlying27 rfl (by kernel_rfl)) rfl ?_
        rw [HRR.out]
        exact ⟨_, rfl, HU.out.set4 E1.out (allSl4 _ _ _ _ _ _ _ _ _ _ _ _) rfl rfl rfl, bl_set4 HB5.out (by omega) _ _ _ _⟩
end Go.Proofs.Ytjpmfiicbokdcaa
