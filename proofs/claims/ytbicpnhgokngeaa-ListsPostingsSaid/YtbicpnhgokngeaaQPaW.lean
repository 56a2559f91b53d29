/- The walk of part and of At. -/
import Derived.Test.YtbicpnhgokngeaaQBuW
namespace Go.Proofs.Ytbicpnhgokngeaa
open Go.RowKit
set_option linter.unusedVariables false
set_option linter.unusedSimpArgs false
theorem RStep.grown {base g : Nat} {L : List Bool} {w w' : World} {pos : Nat} (h : RStep base g L w pos w') : w.grownBy w' (some g) := ⟨h.2.2.1, h.2.2.2.1, h.2.2.2.2.1, by rw [h.2.1]; exact Nat.le_refl _, fun k _ hk => h.2.2.2.2.2 k (fun e => hk (by rw [e]))⟩
/-- A Reader whose bytes lie in a known place. -/
def RdA (w : World) (base g : Nat) (L : List Bool) (pos : Nat) (A : Option Addr) (m c : Nat) (p : List UInt8) : Prop :=
  w.heap[g]? = some (.cells #[.slice A m c, .int .i64 (L.length : Int), .int .i64 (pos : Int)] 73 (0, 0)) ∧ base ≤ g ∧ BRd w A p ∧ m = p.length ∧ L.length ≤ 8 * m ∧ unpackL p L.length = L ∧ (∀ b, A = some b → b.block ≠ g) ∧ pos ≤ L.length ∧ L.length ≤ 100000
theorem RdA.rd {w : World} {base g : Nat} {L : List Bool} {pos : Nat} {A : Option Addr} {m c : Nat} {p : List UInt8} (h : RdA w base g L pos A m c p) : RdS w base g L pos := ⟨A, m, c, p, h⟩
theorem RdA.step {w w' : World} {base g : Nat} {L : List Bool} {pos pos' : Nat} {A : Option Addr} {m c : Nat} {p : List UInt8} (h : RdA w base g L pos A m c p) (hs : RStep base g L w pos' w') (hq : w' = w ∨ ∃ q : Int, w' = w.setCell ⟨g, 2, none⟩ (.int .i64 q)) : RdA w' base g L pos' A m c p := by
  obtain ⟨h1, h2, h3, h4, h5, h6, h7, h8, h9⟩ := h
  obtain ⟨A', m', c', p', k1, _, _, _, _, _, _, k8, _⟩ := hs.1
  have hr : BRd w' A p := Rd.grown h3 hs.grown fun b hb e => h7 b hb (by injection e)
  refine ⟨?_, h2, hr, h4, h5, h6, h7, k8, h9⟩
  rcases hq with rfl | ⟨q, rfl⟩
  · rw [h1] at k1
    rw [h1]
    simp at k1 ⊢
    exact k1.2
  · rw [heap_setCell_same w g 2 _ _ _ h1] at k1 ⊢
    simp at k1 ⊢
    exact k1.2
theorem RdA.keep {w w' : World} {base g gv : Nat} {L : List Bool} {pos : Nat} {A : Option Addr} {m c : Nat} {p : List UInt8} (h : RdA w base g L pos A m c p) (hg : w.grownBy w' (some gv)) (hne : gv ≠ g) (hA : ∀ b, A = some b → b.block ≠ gv ∨ p = []) : RdA w' base g L pos A m c p := by
  obtain ⟨h1, h2, h3, h4⟩ := h
  refine ⟨(hg.block g (Array.getElem?_eq_some_iff.1 h1).1 (fun e => hne (by injection e with e; exact e.symm))).trans h1, h2, ?_, h4⟩
  by_cases hp : p = []
  · exact .inl (by rw [hp]; rfl)
  · exact Rd.grown h3 hg (fun b hb e => (hA b hb).elim (fun h => h (by injection e)) hp)
theorem grown_set (w : World) (g i : Nat) (v : Value) : w.grownBy (w.setCell ⟨g, i, none⟩ v) (some g) := ⟨rfl, rfl, rfl, by simp [World.setCell], fun k _ hk => heap_setCell_other w ⟨g, i, none⟩ k _ (fun e => hk (by rw [e]))⟩
set_option maxRecDepth 100000 in
theorem seek_ok (base g : Nat) (L : List Bool) (pos q : Nat) (x : Int) (w : World) (hs : RdS w base g L pos) (hx : x = q) (hq : q ≤ L.length) :
    Calls Try.prog 27 #[.pointer (some ⟨g, 0, none⟩), .int .i64 x] w fun e w' => e = .returned (.int .i64 0) ∧ RStep base g L w q w' ∧ (w' = w ∨ ∃ q : Int, w' = w.setCell ⟨g, 2, none⟩ (.int .i64 q)) := by
  subst hx
  have HST := hide (RStep.set hs hq)
  obtain ⟨c1, c2, cf, hp, hL⟩ := cells_of_rd hs
  obtain ⟨N, hN⟩ : ∃ N, N = L.length := ⟨_, rfl⟩
  rw [← hN] at c1 hp hL hq
  clear hN hs
  go_enter Try.func27, Try.ntmps27
  go_wp2
  go_ret
  exact ⟨rfl, HST.out, .inr ⟨_, rfl⟩⟩

theorem sk_get (ss : List (Nat × Nat)) (k j : Nat) (c : Nat × Nat) (v : Value) (hk : ss[k]? = some c) (hj : (skC c)[j]? = some v) : (ss.flatMap skC)[k * 2 + j]? = some v := by
  have hj3 : j < 2 := by have := (List.getElem?_eq_some_iff.1 hj).1; simpa [skC] using this
  induction ss generalizing k with
  | nil => simp at hk
  | cons d ss ih =>
    rw [List.flatMap_cons]
    cases k with
    | zero =>
      simp at hk; subst hk
      rw [List.getElem?_append_left (by simpa [skC] using hj3)]
      simpa using hj
    | succ k =>
      rw [List.getElem?_append_right (by simp [skC]; omega)]
      have := ih k (by simpa using hk)
      rw [← this]
      congr 1
      simp [skC]; omega
theorem own_some {w : World} {base : Nat} {e : TypeId} {v : Value} {n : Nat} {xs : List Value} (h : w.ownsRow base e 1 v n xs) (hn : 0 < n) : ∃ g c, v = .slice (some ⟨g, 0, none⟩) n c ∧ base ≤ g := by
  rcases h.2 with ⟨h1, h2⟩ | ⟨g, cap, cur, rfl, hb, _⟩
  · omega
  · exact ⟨g, cap, rfl, hb⟩
theorem LstS.below {w w' : World} {g : Nat} {l : List Nat} (h : LstS w g l) (hb : Below w.heap.size w w') : LstS w' g l := by
  obtain ⟨A, m, c, B, k, d, h1, h2, h3, h4, h5, h6, h7⟩ := h
  exact ⟨A, m, c, B, k, d, (hb.block g (Array.getElem?_eq_some_iff.1 h1).1).trans h1, h2, h3, Rd.below h4 hb, h5, h6, Rd.below h7 hb⟩
/-- A Reader made in a drawn region. -/
def PTq (base : Nat) (L : List Bool) : Value → World → Prop := fun v w => ∃ gr, v = .tuple #[.pointer (some ⟨gr, 0, none⟩), .int .i64 0] ∧ base ≤ gr ∧ RdS w base gr L 0
def PRq (base : Nat) (L : List Bool) : Value → World → Prop := fun v w => ∃ gr, v = .pointer (some ⟨gr, 0, none⟩) ∧ base ≤ gr ∧ RdS w base gr L 0
theorem stab_PTq (base : Nat) (L : List Bool) : Stab (.p (PTq base L)) := fun u w w' hb ⟨gr, h1, h2, h3⟩ => ⟨gr, h1, h2, h3.below hb⟩
theorem stab_PRq (base : Nat) (L : List Bool) : Stab (.p (PRq base L)) := fun u w w' hb ⟨gr, h1, h2, h3⟩ => ⟨gr, h1, h2, h3.below hb⟩
/-- A part of the positions. -/
def chunkQ (l : List Nat) (k j : Nat) : List Nat := (l.take j).drop (16 * k)
theorem chunkQ_len (l : List Nat) (k j : Nat) (h : j ≤ l.length) : (chunkQ l k j).length = j - 16 * k := by unfold chunkQ; simp; omega
theorem chunkQ_succ {l : List Nat} {k j x : Nat} (h : l[j]? = some x) (hk : 16 * k ≤ j) : chunkQ l k (j + 1) = chunkQ l k j ++ [x] := by
  have hj := (List.getElem?_eq_some_iff.1 h).1
  unfold chunkQ
  rw [List.take_add_one, h, List.drop_append_of_le_length (by simp; omega)]; rfl
theorem chunkQ_last {l : List Nat} {k j x : Nat} (h : l[j]? = some x) (hk : 16 * k ≤ j) : (chunkQ l k (j + 1))[j - 16 * k]? = some x := by
  have hj := (List.getElem?_eq_some_iff.1 h).1
  rw [chunkQ_succ h hk, List.getElem?_append_right (by rw [chunkQ_len _ _ _ (by omega)]; exact Nat.le_refl _), chunkQ_len _ _ _ (by omega)]
  simp
set_option maxHeartbeats 2000000 in
set_option maxRecDepth 100000 in
theorem part_any (g k : Nat) (l : List Nat) (x : Int) (w : World) (h : LstS w g l) (hok : okQ l) (hl : szQ l) (hx : x = k) (hk : 16 * k < l.length) :
    Calls Try.prog 17 #[.pointer (some ⟨g, 0, none⟩), .int .i64 x] w fun e w' => ∃ v, e = .returned v ∧ w'.ownsRow w.heap.size 3 1 v (min l.length (16 * (k + 1)) - 16 * k) ((chunkQ l k (min l.length (16 * (k + 1)))).map nv) ∧ Below w.heap.size w w' := by
  subst hx
  have HLS := hide h
  have HOK := hide hok
  obtain ⟨A, m, c, B, ks, d, hg, hm, hmc, hr, hks, hksd, hsk⟩ := h
  obtain ⟨n, hn⟩ : ∃ n, n = l.length := ⟨_, rfl⟩
  obtain ⟨bt, hbt⟩ : ∃ bt, bt = posQ l l.length := ⟨_, rfl⟩
  have hp6 := hl.2
  have hl := hl.1
  have hb6 : bt ≤ 60000 := by omega
  have hmb : m = nby bt := by rw [hm, packL_length, hbt]; rfl
  have hm1 : m ≤ 10000 := by rw [hmb]; unfold nby; omega
  have hm8 : bt ≤ 8 * m := by rw [hmb]; unfold nby; omega
  rw [← hbt, ← hn] at hg
  have c0 : w.cell? ⟨g, 0, none⟩ = some (nv n) := cell_of_row w g 0 _ _ _ hg
  have c1 : w.cell? ⟨g, 1, none⟩ = some (nv bt) := cell_of_row w g 1 _ _ _ hg
  have c2 : w.cell? ⟨g, 2, none⟩ = some (.slice A m c) := cell_of_row w g 2 _ _ _ hg
  have c3 : w.cell? ⟨g, 3, none⟩ = some (.slice B ks d) := cell_of_row w g 3 _ _ _ hg
  have c0 : w.cell? ⟨g, 0, none⟩ = some (.int .i64 (n : Int)) := c0
  have c1 : w.cell? ⟨g, 1, none⟩ = some (.int .i64 (bt : Int)) := c1
  have hkk : k < ks := by rw [hks, skQ_length]; omega
  have hat := skQ_at l l.length k hk
  obtain ⟨x0, hx0⟩ : ∃ x0, l[16 * k]? = some x0 := ⟨_, List.getElem?_eq_getElem hk⟩
  rw [getD_at hx0] at hat
  obtain ⟨b, o, rfl, hbl, e0⟩ := hsk.at_ (sk_get _ k 0 _ _ hat rfl)
  obtain ⟨b1, o1, q, _, e1⟩ := hsk.at_ (sk_get _ k 1 _ _ hat rfl)
  injection q with q
  injection q with q1 q2
  subst q1 q2
  obtain ⟨ps, hps⟩ : ∃ ps, ps = posQ l (16 * k) := ⟨_, rfl⟩
  rw [← hps] at e1
  have e0 : w.cell? ⟨b, o + k * 2, none⟩ = some (.int .i64 (x0 : Int)) := e0
  have e1 : w.cell? ⟨b, o + k * 2 + 1, none⟩ = some (.int .i64 (ps : Int)) := by rw [Nat.add_assoc]; exact e1
  have hblt : b < w.heap.size := hbl
  have hgs0 : g < w.heap.size := (Array.getElem?_eq_some_iff.1 hg).1
  have HCE := hide (fun (wx : World) (hb : Below w.heap.size w wx) => show wx.cell? ⟨g, 0, none⟩ = some (.int .i64 (n : Int)) ∧ wx.cell? ⟨g, 3, none⟩ = some (.slice (some ⟨b, o, none⟩) ks d) ∧ wx.cell? ⟨b, o + k * 2, none⟩ = some (.int .i64 (x0 : Int)) ∧ wx.cell? ⟨b, o + k * 2 + 1, none⟩ = some (.int .i64 (ps : Int)) from
    ⟨(hb.cell hgs0).trans c0, (hb.cell hgs0).trans c3, (hb.cell hblt).trans e0, (hb.cell hblt).trans e1⟩)
  have HR := hide hr
  have HM := hide hm
  have HG := hide hg
  have HN := hide hn
  have HBT := hide hbt
  have HPS := hide hps
  have HX0 := hide hx0
  have hgs : g < w.heap.size := (Array.getElem?_eq_some_iff.1 hg).1
  have hkn : 16 * k < n := by rw [hn]; exact hk
  have hn3 : n ≤ 5000 := by rw [hn]; exact hl
  have hkki : (k : Int) < (ks : Int) := by omega
  obtain ⟨i2, hi2, hz0, hz1, hz2⟩ := info_parts info_int
  clear hok hr hm hg hn hbt hps hx0 hks hsk hat hp6 hmb hl hk
  go_enter Try.func17, Try.ntmps17
  go_wp2_with fail
  have HBTL := hide (show unpackL (packL (upQ l l.length)) bt = upQ l l.length by rw [HBT.out]; exact unpack_pack _)
  refine wp_region_K 13 (by kernel_rfl) (by kernel_rfl) (fun Q HQ => ?_)
  simp only [List.take_succ_cons, List.take_zero, List.map_cons, List.map_nil]
  repeat
    first | apply wpS_c rfl | apply wpS_gc rfl (guard_mk rfl rfl)
    focus
      intro ev wx hC hx
      (try simp [Op.operands, Call.operands, opndS, Slot.holds] at hx)
      have k1 : wx.cell? _ = _ := CB.cell hC (W0 := w.drew) c1
      have k2 : wx.cell? _ = _ := CB.cell hC (W0 := w.drew) c2
      go_simp
      try (first | exact rfl | exact ⟨Below.refl _ _, rfl⟩)
      done
    dsimp only [setS, List.set]
  refine wpS_p (R := PTq w.heap.size (upQ l l.length)) rfl (stab_PTq _ _) ?_ ?_
  focus
    intro ev wx hC hx
    (try simp [Op.operands, Call.operands, opndS, Slot.holds] at hx)
    go_simp
    refine (newreader_any A m c (packL (upQ l l.length)) (bt : Int) wx HM.out hmc hm1 (Rd.below HR.out hC.below) ⟨by omega, by omega⟩).mono ?_
    rintro e w' ⟨gr, rfl, hgr, hrs, hb⟩
    rw [Int.toNat_natCast, HBTL.out] at hrs
    have hgs2 := hC.below.size
    have hrs2 : RdS w' w.heap.size gr (upQ l l.length) 0 := by
      obtain ⟨A', m', c', p', h1, h2, h3⟩ := hrs
      exact ⟨A', m', c', p', h1, by omega, h3⟩
    exact ⟨_, rfl, hb, gr, rfl, by omega, hrs2⟩
  dsimp only [setS, List.set]
  refine wpS_p rfl (stab_PTq w.heap.size (upQ l l.length)) (opS_move_p (.tmp 20) rfl _ rfl) ?_
  dsimp only [setS, List.set]
  refine wpS_p (R := PRq w.heap.size (upQ l l.length)) rfl (stab_PRq _ _) ?_ ?_
  focus
    intro ev wx hC hx
    (try simp [Op.operands, Call.operands, opndS, Slot.holds] at hx)
    obtain ⟨gr, he, h2, h3⟩ := hx
    go_simp
    exact ⟨bl_refl wx, gr, rfl, h2, h3⟩
  dsimp only [setS, List.set]
  apply wpS_c (v := .int .i64 0) rfl
  focus
    intro ev wx hC hx
    (try simp [Op.operands, Call.operands, opndS, Slot.holds] at hx)
    obtain ⟨gr, he, h2, h3⟩ := hx
    go_simp
    first | exact bl_refl wx | exact ⟨bl_refl wx, rfl⟩
  dsimp only [setS, List.set]
  refine wpS_p rfl (stab_PRq w.heap.size (upQ l l.length)) (opS_assign_p (.tmp 21) rfl _ rfl) ?_
  dsimp only [setS, List.set]
  refine wpS_nil (HQ _ fun w2 hC1 => ?_)
  simp only [closeS, List.drop_succ_cons, List.drop_zero]
  clear HQ
  have HB2 := hide hC1.below
  clear hC1
  rintro v5 ⟨gr, rfl, hgr, hrs⟩ v11 - v20 - v21 -
  obtain ⟨Ar, mr, cr, pr, hra⟩ := hrs
  have hra : RdA w2 w.heap.size gr (upQ l l.length) 0 Ar mr cr pr := hra
  have HAR : Hid (∀ b, Ar = some b → b.block < w2.heap.size ∨ pr = []) := hide fun b hb => by
    rcases hra.2.2.1 with h | ⟨b', o', he, hlt, _⟩
    · right; simpa using h
    · left; rw [he] at hb; injection hb with hb; subst hb; exact hlt
  have HRA := hide hra
  have hgr2 : gr < w2.heap.size := hra.rd.lt
  obtain ⟨x0', x3, y0, y1⟩ := HCE.out w2 HB2.out
  clear hra c0 c1 c2 c3 e0 e1
  have HPM := hide (show ps ≤ bt by rw [HPS.out, HBT.out]; exact posQ_mono l _ _ (by rw [← HN.out]; omega))
  go_wp2_with fail
  refine (seek_ok w.heap.size gr (upQ l l.length) 0 ps _ w2 HRA.out.rd rfl (by show ps ≤ posQ l l.length; rw [← HBT.out]; exact HPM.out)).mono ?_
  rintro e w3 ⟨rfl, hst3, hq3⟩
  have HRA3 := hide (HRA.out.step hst3 hq3)
  have HB3 := hide (HB2.out.trans (hst3.below hgr))
  have s3 : w3.heap.size = w2.heap.size := hst3.2.1
  have hdl := read_gap HOK.out (k := 16 * k) (by rw [← HN.out]; exact hkn)
  rw [← HPS.out] at hdl
  have HDL := hide hdl
  clear hst3 hq3 hdl x0' x3 y0 y1
  go_wp2_with fail
  refine (rdelta_any w.heap.size gr (upQ l l.length) ps w3 HRA3.out.rd).mono ?_
  rintro e w4 ⟨rfl, hst4, hq4⟩
  rw [HDL.out] at hst4 ⊢
  have HRA4 := hide (HRA3.out.step hst4 hq4)
  have HB4 := hide (HB3.out.trans (hst4.below hgr))
  have s4 : w4.heap.size = w2.heap.size := by rw [hst4.2.1]; exact s3
  obtain ⟨x0', x3, y0, y1⟩ := HCE.out w4 HB4.out
  unfold tup2
  clear hst4 hq4
  go_wp2_with fail
  have HRS4 := hide (show RdA w4 w.heap.size gr (upQ l l.length) (posQ l (16 * k + 1)) Ar mr cr pr from HRA4.out)
  have hk2 : k ≤ 320 := by omega
  have hk16 : (k : Int) * 16 = ((16 * k : Nat) : Int) := by omega
  obtain ⟨hi, hhi⟩ : ∃ hi, hi = min l.length (16 * (k + 1)) := ⟨_, rfl⟩
  have hhi1 : 16 * k + 1 ≤ hi := by rw [hhi, ← HN.out]; omega
  have hhi2 : hi ≤ n := by rw [hhi, ← HN.out]; omega
  have ehi : min (n : Int) (((k : Int) + 1) * 16) = (hi : Int) := by rw [hhi, ← HN.out]; omega
  have HHI := hide hhi
  clear hhi
  have HOW := hide (show (w4.alloc (.cells #[.int .i64 (x0 : Int)] 3)).ownsRow w2.heap.size 3 1 (.slice (some ⟨w4.heap.size, 0, none⟩) 1 1) (16 * k + 1 - 16 * k) ((chunkQ l k (16 * k + 1)).map nv) by
    rw [chunkQ_succ HX0.out (Nat.le_refl _), show chunkQ l k (16 * k) = [] by unfold chunkQ; simp, show 16 * k + 1 - 16 * k = 1 by omega]
    exact ⟨rfl, .inr ⟨w4.heap.size, 1, _, rfl, by omega, heap_alloc_new w4 _, Nat.le_refl _, by decide, rfl, rfl⟩⟩)
  have HRS5 := hide (show RdA (w4.alloc (.cells #[.int .i64 (x0 : Int)] 3)) w.heap.size gr (upQ l l.length) (posQ l (16 * k + 1)) Ar mr cr pr from by
    obtain ⟨h1, h2, h3, h4⟩ := HRS4.out
    exact ⟨(Below.block (bl_alloc (bl_refl w4) _) gr (by omega)).trans h1, h2, Rd.alloc h3 _, h4⟩)
  have HB5 := hide (bl_alloc HB4.out (.cells #[.int .i64 (x0 : Int)] 3))
  have e4 : w4.heap.size = w2.heap.size := s4
  rw [e4] at HOW
  have hgr6 : gr < w2.heap.size := hgr2
  have hw26 : w.heap.size ≤ w2.heap.size := HB2.out.size
  have hz5 : w2.heap.size ≤ (w4.alloc (.cells #[.int .i64 (x0 : Int)] 3)).heap.size := by simp; omega
  clear hk16 s4 e4 HRS4 HRA4 HRA3 HRA HDL x0' x3 y0 y1
  generalize w4.alloc (.cells #[.int .i64 (x0 : Int)] 3) = w5 at *
  go_loopw [7, 8] (fun ov jv wr => ∃ j : Nat, jv = .int .i64 (j : Int) ∧ 16 * k + 1 ≤ j ∧ j ≤ hi ∧ Hid (RdA wr w.heap.size gr (upQ l l.length) (posQ l j) Ar mr cr pr) ∧ Hid (wr.ownsRow w2.heap.size 3 1 ov (j - 16 * k) ((chunkQ l k j).map nv)) ∧ Hid (Below w.heap.size w wr) ∧ w2.heap.size ≤ wr.heap.size) (fun _ jv _ => hi - (intOf jv).toNat)
  case atStart => exact ⟨16 * k + 1, i64_eq (by omega), Nat.le_refl _, hhi1, HRS5, HOW, HB5, hz5⟩
  case round =>
    obtain ⟨j, rfl, hj1, hj2, HR5, HO5, HW5, hz5⟩ := hrel
    obtain ⟨x0', x3, y0, y1⟩ := HCE.out wr HW5.out
    by_cases hlt : j < hi
    · have hji : (j : Int) < (hi : Int) := by omega
      obtain ⟨xj, hxj⟩ : ∃ x, l[j]? = some x := ⟨_, List.getElem?_eq_getElem (by rw [← HN.out]; omega)⟩
      obtain ⟨yj, hyj⟩ : ∃ y, l[j - 1]? = some y := ⟨_, List.getElem?_eq_getElem (by rw [← HN.out]; omega)⟩
      have hgq := gapQ_ok HOK.out hxj
      have hbf : befQ l j = yj + 1 := by unfold befQ; rw [if_neg (by omega), getD_at hyj]
      obtain ⟨gq, hgqe⟩ : ∃ gq, gq = gapQ l j := ⟨_, rfl⟩
      have hyx : yj + gq = xj := by omega
      have hgb : gq < 4294967296 := by omega
      have hyb : yj < 2147483648 := HOK.out.2 yj (List.mem_of_getElem? hyj)
      have hdl := read_gap HOK.out (k := j) (by rw [← HN.out]; omega)
      rw [← hgqe] at hdl
      have HDL := hide hdl
      have HXJ := hide hxj
      have HYJ := hide hyj
      clear hgq hbf hgqe hdl hxj hyj
      go_wp2_with fail
      refine (rdelta_any w.heap.size gr (upQ l l.length) (posQ l j) wr HR5.out.rd).mono ?_
      rintro e w6 ⟨rfl, hst, hq⟩
      rw [HDL.out] at hst ⊢
      have HR6 := hide (HR5.out.step hst hq)
      have HO6 := hide (World.ownsRow.kept HO5.out hst.grown (.inr fun h => by have := (HO5.out.lt _ h).1; omega))
      have HW6 := hide (HW5.out.trans (hst.below hgr))
      have HZ6 := hide (show w6.heap.size = wr.heap.size from hst.2.1)
      obtain ⟨go_, co, rfl, hgo⟩ := own_some HO6.out (by omega)
      obtain ⟨⟨vq, hvq, mq⟩, mf⟩ := own_at HO6.out (i := j - 16 * k - 1) (by omega)
      have hvq2 : vq = .int .i64 (yj : Int) := by
        have h5 := chunkQ_last HYJ.out (k := k) (by omega)
        rw [show j - 1 + 1 = j by omega, show j - 1 - 16 * k = j - 16 * k - 1 by omega] at h5
        rw [List.getElem?_map, h5] at hvq
        exact (Option.some.inj hvq).symm
      rw [hvq2] at mq
      have eg : IntKind.i64.wrap (gq : Int) = (gq : Int) := by rw [IntKind.wrap_i64]; omega
      have ey : (yj : Int) + (gq : Int) = (xj : Int) := by omega
      obtain ⟨q1, hq1⟩ : ∃ q1, q1 = j - 16 * k := ⟨_, rfl⟩
      obtain ⟨q0, hq0⟩ : ∃ q0, q0 = j - 16 * k - 1 := ⟨_, rfl⟩
      have e10 : (q1 : Int) - 1 = (q0 : Int) := by omega
      have hq01 : (q0 : Int) < (q1 : Int) := by omega
      have hq16 : q1 ≤ 16 := by have := HHI.out; omega
      have hq1s : j + 1 - 16 * k = q1 + 1 := by omega
      rw [← hq0] at mq mf
      rw [← hq1] at HO6 ⊢
      have HQS := hide hq1s
      have HJ1 := hide (And.intro hj1 hlt)
      have hxb : (xj : Int) ≤ 2147483647 := by have := HOK.out.2 xj (List.mem_of_getElem? HXJ.out); omega
      have hj300 : j ≤ 5000 := by omega
      clear hst hq hvq hvq2 hq1 hq0 hq1s hyx hlt
      unfold tup2
      go_wp2_with (at_builtin; go_loud (refine wpList_append_rd _ rfl (.tmp 64) (.tmp 74) 22 rfl w2.heap.size 3 i2 _ 1 8 Try.underlying22 hi2 hz0 hz1 hz2 rfl (by omega) _ _ _ rfl (own_below HO6.out (bl_alloc (bl_refl w6) _)) _ 1 _ [nv xj] rfl rfl (rd_lit w6 _ _ _) (by intro u hu; simp at hu; subst hu; rfl) (by simp only [maxLen]; omega) (by omega) (by have := HZ6.out; simp; omega) ?_); intro v7 w7 ho7 hg7 hat7)
      have hz6 := HZ6.out
      have hg6 : gr < w6.heap.size := by omega
      have HRA6 := hide (show RdA (w6.alloc (.cells #[.int .i64 (xj : Int)] 3)) w.heap.size gr (upQ l l.length) (posQ l (j + 1)) Ar mr cr pr from by
        obtain ⟨h1, h2, h3, h4⟩ := HR6.out
        exact ⟨(Below.block (bl_alloc (bl_refl w6) _) gr hg6).trans h1, h2, Rd.alloc h3 _, h4⟩)
      have hg7' : (w6.alloc (.cells #[.int .i64 (xj : Int)] 3)).grownBy w7 (some go_) := hg7
      have HR7 := hide (HRA6.out.keep (gv := go_) hg7' (by omega) (fun b hb => (HAR.out b hb).imp (fun h => by omega) id))
      have HO7 : Hid (w7.ownsRow w2.heap.size 3 1 v7 (j + 1 - 16 * k) ((chunkQ l k (j + 1)).map nv)) := hide (by
        rw [HQS.out, chunkQ_succ HXJ.out (by omega), List.map_append]
        exact ho7)
      have HW7 := hide (bl_grown (bl_alloc HW6.out (.cells #[.int .i64 (xj : Int)] 3)) hg7' (fun q hq => by injection hq with hq; omega))
      have hz7 : w2.heap.size ≤ w7.heap.size := by have := hg7.size; simp at this; omega
      clear ho7 hg7 hg7' hat7 hz6
      go_roundw
      case rel => exact ⟨j + 1, by go_num, by omega, by omega, HR7, HO7, HW7, hz7⟩
      case measure => simp [intOf]; omega
    · obtain rfl : j = hi := by omega
      go_wp2
      go_ret
      refine ⟨_, rfl, ?_, HW5.out⟩
      rw [← HHI.out]
      exact own_base HO5.out hw26
end Go.Proofs.Ytbicpnhgokngeaa
