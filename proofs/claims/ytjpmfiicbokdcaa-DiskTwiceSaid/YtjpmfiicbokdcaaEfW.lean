/- The walk of the program's Crash. -/
import Derived.Test.YtjpmfiicbokdcaaEeW
namespace Go.Proofs.Ytjpmfiicbokdcaa
open Go.RowKit
set_option linter.unusedVariables false
set_option linter.unusedSimpArgs false
theorem RO.take {w : World} {a : Option Addr} {n q : Nat} {l : List DOp} (h : RO w a n l) (hq : q ≤ n) : RO w a q (l.take q) := by
  refine ⟨by rw [List.length_take, ← h.1]; omega, ?_⟩
  rw [← flat_take encO_len]
  exact h.2.take (q * 4)
theorem OwD.dirN {w : World} {B n1 p1 n2 p2 n3 p3 n4 p4 n5 p5 : Nat} {A1 A2 A3 A4 A5 : Option Addr} {d : Dsk} {l5 : List Ent} (h : OwD w B A1 n1 p1 A2 n2 p2 A3 n3 p3 A4 n4 p4 d) (ho : w.ownsRow B 35 2 (.slice A5 n5 p5) n5 (l5.flatMap encE)) (he : n5 = l5.length) (hap : Apart (.slice A5 n5 p5) (.slice A3 n3 p3)) : OwD w B A1 n1 p1 A5 n5 p5 A3 n3 p3 A4 n4 p4 ⟨d.inodes, l5, d.dur, d.ops⟩ :=
  ⟨h.o1, ho, h.o3, h.o4, h.e1, he, h.e3, h.e4, hap⟩
theorem bl_ofgr {w wr w' : World} {B : Nat} {row : Option Nat} (h : Below B w wr) (hB : B ≤ wr.heap.size) (hg : wr.grownBy w' row) (hr : ∀ q, row = some q → B ≤ q) : Below B w w' :=
  h.trans ⟨hg.os, hg.tape, hg.output, hg.size, fun k hk => hg.block k (Nat.lt_of_lt_of_le hk hB) (fun e => by have := hr k e.symm; omega)⟩
/-- The world while the directory of a crash is replayed and stored. -/
structure GP (W : World) (g n : Nat) (xs : List Value) (L : Nat → Bool) (tm : Nat → Value) (w : World) : Prop where
  b : ∃ wy, Below W.heap.size W wy ∧ w = (if L 15 = true then wy.setCell ⟨g, 1, none⟩ (tm 30) else wy)
  r10 : L 10 = true → ∃ u, tm 29 = .tuple #[u, .bool true] ∧ w.ownsRow W.heap.size 35 2 u n xs
  r11 : L 11 = true → tm 18 = tm 29
  r12 : L 12 = true → tm 29 = .tuple #[tm 30, .bool true]
  m12 : L 12 = true → L 11 = true
  m11 : L 11 = true → L 10 = true
  m15 : L 15 = true → ∀ j, j < 15 → j ≠ 13 → L j = true
theorem GP.bel {W : World} {g n : Nat} {xs : List Value} {L : Nat → Bool} {tm : Nat → Value} {w : World} (h : GP W g n xs L tm w) {i : Nat} (hi : i < 15) (h13 : i ≠ 13) (hL : L i = false) : Below W.heap.size W w ∧ L 15 = false := by
  have h15 : L 15 = false := by
    cases hq : L 15 with
    | false => rfl
    | true => rw [h.m15 hq i hi h13] at hL; cases hL
  obtain ⟨wy, hb, hw⟩ := h.b
  rw [h15] at hw
  simp at hw
  subst hw
  exact ⟨hb, h15⟩
theorem GP.move {W : World} {g n : Nat} {xs : List Value} {L : Nat → Bool} {tm : Nat → Value} {w : World} (h : GP W g n xs L tm w) {i t : Nat} (hi : i ≠ 10 ∧ i ≠ 11 ∧ i ≠ 12 ∧ i ≠ 15) (ht : t ≠ 18 ∧ t ≠ 29 ∧ t ≠ 30) (v : Value) : GP W g n xs (upL L i) (putT (some t) v tm) w := by
  obtain ⟨i1, i2, i3, i4⟩ := hi
  obtain ⟨t1, t2, t3⟩ := ht
  have u : ∀ j, j ≠ i → upL L i j = L j := fun j hj => by unfold upL; rw [if_neg hj]
  have um : ∀ j, L j = true → upL L i j = true := fun j hj => by unfold upL; split <;> simp [hj]
  have p : ∀ j, j ≠ t → putT (some t) v tm j = tm j := fun j hj => by unfold putT; simp [hj, Ne.symm hj]
  constructor
  · rw [u 15 (Ne.symm i4), p 30 (Ne.symm t3)]; exact h.b
  · rw [u 10 (Ne.symm i1), p 29 (Ne.symm t2)]; exact h.r10
  · rw [u 11 (Ne.symm i2), p 18 (Ne.symm t1), p 29 (Ne.symm t2)]; exact h.r11
  · rw [u 12 (Ne.symm i3), p 29 (Ne.symm t2), p 30 (Ne.symm t3)]; exact h.r12
  · rw [u 12 (Ne.symm i3), u 11 (Ne.symm i2)]; exact h.m12
  · rw [u 11 (Ne.symm i2), u 10 (Ne.symm i1)]; exact h.m11
  · rw [u 15 (Ne.symm i4)]; exact fun h15 j hj hj13 => um j (h.m15 h15 j hj hj13)
theorem GP.c10 {W : World} {g n : Nat} {xs : List Value} {L : Nat → Bool} {tm : Nat → Value} {w w' : World} (h : GP W g n xs L tm w) (hL : L 10 = false) {u : Value} (ho : w'.ownsRow w.heap.size 35 2 u n xs) (hb : Below w.heap.size w w') : GP W g n xs (upL L 10) (putT (some 29) (.tuple #[u, .bool true]) tm) w' := by
  obtain ⟨hbw, h15⟩ := h.bel (by decide) (by decide) hL
  have h11 : L 11 = false := by
    cases hq : L 11 with
    | false => rfl
    | true => rw [h.m11 hq] at hL; cases hL
  have h12 : L 12 = false := by
    cases hq : L 12 with
    | false => rfl
    | true => rw [h.m12 hq] at h11; cases h11
  constructor
  · exact ⟨w', hbw.trans (hb.mono hbw.size), by simp [upL, h15]⟩
  · exact fun _ => ⟨u, by simp [putT], own_baseG ho hbw.size⟩
  · intro hq; exact absurd hq (by simp [upL, h11])
  · intro hq; exact absurd hq (by simp [upL, h12])
  · intro hq; exact absurd hq (by simp [upL, h12])
  · intro _; simp [upL]
  · intro hq; exact absurd hq (by simp [upL, h15])
theorem GP.c11 {W : World} {g n : Nat} {xs : List Value} {L : Nat → Bool} {tm : Nat → Value} {w : World} (h : GP W g n xs L tm w) (hL : L 11 = false) (h10 : L 10 = true) : GP W g n xs (upL L 11) (putT (some 18) (tm 29) tm) w := by
  obtain ⟨hbw, h15⟩ := h.bel (by decide) (by decide) hL
  have h12 : L 12 = false := by
    cases hq : L 12 with
    | false => rfl
    | true => rw [h.m12 hq] at hL; cases hL
  constructor
  · exact ⟨w, hbw, by simp [upL, h15]⟩
  · intro hq; simpa [upL, putT] using h.r10 h10
  · intro _; simp [putT]
  · intro hq; exact absurd hq (by simp [upL, h12])
  · intro hq; exact absurd hq (by simp [upL, h12])
  · intro _; simp [upL, h10]
  · intro hq; exact absurd hq (by simp [upL, h15])
theorem GP.c12 {W : World} {g n : Nat} {xs : List Value} {L : Nat → Bool} {tm : Nat → Value} {w : World} (h : GP W g n xs L tm w) (hL : L 12 = false) (h11 : L 11 = true) {u : Value} (hu : tm 29 = .tuple #[u, .bool true]) : GP W g n xs (upL L 12) (putT (some 30) u tm) w := by
  obtain ⟨hbw, h15⟩ := h.bel (by decide) (by decide) hL
  constructor
  · exact ⟨w, hbw, by simp [upL, h15]⟩
  · intro hq; simpa [upL, putT] using h.r10 (h.m11 h11)
  · intro _; simpa [putT] using h.r11 h11
  · intro _; simp [putT, hu]
  · intro _; simp [upL, h11]
  · intro hq; simp [upL, h.m11 h11]
  · intro hq; exact absurd hq (by simp [upL, h15])
theorem GP.c15 {W : World} {g n : Nat} {xs : List Value} {L : Nat → Bool} {tm : Nat → Value} {w : World} (h : GP W g n xs L tm w) (hL : L 15 = false) (hg : g < W.heap.size) (hM : ∀ j, j < 15 → j ≠ 13 → L j = true) : GP W g n xs (upL L 15) (putT none undef tm) (w.setCell ⟨g, 1, none⟩ (tm 30)) := by
  obtain ⟨wy, hb, hw⟩ := h.b
  rw [hL] at hw
  simp at hw
  subst hw
  constructor
  · exact ⟨w, hb, by simp [upL, putT]⟩
  · intro hq
    obtain ⟨u, h1, h2⟩ := h.r10 (hM 10 (by decide) (by decide))
    exact ⟨u, by simpa [putT] using h1, ownG_setlt h2 hg _ _⟩
  · intro hq; simpa [putT] using h.r11 (hM 11 (by decide) (by decide))
  · intro hq; simpa [putT] using h.r12 (hM 12 (by decide) (by decide))
  · intro _; simp [upL, hM 11 (by decide) (by decide)]
  · intro _; simp [upL, hM 10 (by decide) (by decide)]
  · intro _ j hj hj13; unfold upL; split; rfl; exact hM j hj hj13
set_option maxHeartbeats 16000000 in
set_option maxRecDepth 100000 in
theorem crash_any (v : Value) (d : Dsk) (ca : Option Addr) (cn cc : Nat) (ch : List Int) (w : World) (h : IsD w v d) (hsk : szK 40000 d) (hch : Rd w ca (ch.map (Value.int .i64))) (hcn : cn = ch.length) :
    Calls Try.prog 20 #[v, .slice ca cn cc] w fun e w' => ∃ u, e = .returned u ∧ IsD w' u (crashM d ch) ∧ Below w.heap.size w w' := by
  have hs : szD d := hsk.szD (by decide)
  have HSK := hide hsk
  have HD0 := hide h
  obtain ⟨a1, n1, c1, a2, n2, c2, a3, n3, c3, a4, n4, c4, rfl, -⟩ := h.h
  have HCH := hide hch
  have HCN := hide hcn
  obtain ⟨r, hr⟩ : ∃ r, r = crashM d ch := ⟨_, rfl⟩
  have HR := hide hr
  rw [← hr]
  have HV := hide (fun (wx : World) (hb : Below w.heap.size w wx) => validate_any _ d wx (h.below hb) hs)
  have HCO := hide (fun (wx : World) (g : Nat) (hb : Below w.heap.size w wx) (hg : Blk wx g [.slice ca cn cc] 22) (i : Nat) (n : Int) (hi : i ≤ 1000000000) (hn1 : 1 ≤ n) (hn : n ≤ 1000000000) => pchoice_any g ca cn cc ch i n _ wx hg (hch.below hb) hcn hi hn1 hn)
  obtain ⟨er, her⟩ : ∃ er, er = errM d := ⟨_, rfl⟩
  have HER := hide her
  rw [← her] at HV
  have HS := hide hs
  clear h hr her hs hsk hch hcn
  obtain ⟨W3, hW3⟩ : ∃ W3, W3 = ((w.alloc (.cells [.slice a1 n1 c1, .slice a2 n2 c2, .slice a3 n3 c3, .slice a4 n4 c4].toArray 27)).alloc (.cells [.slice ca cn cc].toArray 22)).alloc (.cells [.slice none 0 0, .slice none 0 0, .slice none 0 0, .slice none 0 0].toArray 27) := ⟨_, rfl⟩
  have B0 := hide (show Blk W3 w.heap.size [.slice a1 n1 c1, .slice a2 n2 c2, .slice a3 n3 c3, .slice a4 n4 c4] 27 by rw [hW3]; exact ((Blk.new w _ _).alloc _).alloc _)
  have BC := hide (show Blk W3 (w.heap.size + 1) [.slice ca cn cc] 22 by rw [hW3]; exact (Blk.newG (by simp) _ _).alloc _)
  have B1 := hide (show Blk W3 (w.heap.size + 1 + 1) [.slice none 0 0, .slice none 0 0, .slice none 0 0, .slice none 0 0] 27 by rw [hW3]; exact Blk.newG (by simp) _ _)
  have HB2 := hide (show Below w.heap.size w W3 by rw [hW3]; exact bl_alloc (bl_alloc (bl_alloc (bl_refl w) _) _) _)
  have HW2 := hide hW3
  clear hW3
  go_enter Try.func20, Try.ntmps20
  go_wp2_with fail
  rw [← HW2.out]
  clear HW2
  refine (HV.out W3 HB2.out).mono ?_
  rintro e w1 ⟨rfl, hb1⟩
  have C0 := hide (B0.out.below hb1)
  have CC := hide (BC.out.below hb1)
  have C1 := hide (B1.out.below hb1)
  have HB1 := hide (HB2.out.trans (hb1.mono HB2.out.size))
  clear hb1 B0 B1 BC HB2
  have y0 : w1.cell? ⟨w.heap.size + 1 + 1, 0, none⟩ = some _ := C1.out.cell rfl
  have y1 : w1.cell? ⟨w.heap.size + 1 + 1, 1, none⟩ = some _ := C1.out.cell rfl
  have y2 : w1.cell? ⟨w.heap.size + 1 + 1, 2, none⟩ = some _ := C1.out.cell rfl
  have y3 : w1.cell? ⟨w.heap.size + 1 + 1, 3, none⟩ = some _ := C1.out.cell rfl
  have l1 := C1.out.lt
  have f1 := C1.out.fr
  cases hvd : validM d with
  | false =>
    obtain rfl : er = 9 := by rw [HER.out]; unfold errM; rw [hvd]; rfl
    have hr : r = .nil := by rw [HR.out]; unfold crashM; rw [hvd]; rfl
    have HRR := hide hr
    clear hvd hr
    go_wp2
    refine bodyPost_ret (results_cell_row Try.results20 _ _ (w.heap.size + 1 + 1) 27 #[.slice none 0 0, .slice none 0 0, .slice none 0 0, .slice none 0 0] (0, 0) _ rfl (C1.out.set4 _ _ _ _) Try.underlying27 rfl (by kernel_rfl)) rfl ?_
    rw [HRR.out]
    exact ⟨_, rfl, isD_nil _, bl_set4 HB1.out (by omega) _ _ _ _⟩
  | true =>
    obtain rfl : er = 0 := by rw [HER.out]; unfold errM; rw [hvd]; rfl
    obtain ⟨l, hl, hlr, hln⟩ := pref_ok hvd (prefM d ch)
    have HLL := hide (show l.length ≤ 100000 by have := HSK.out.2.2.1; have := HSK.out.2.2.2; omega)
    have hq := choM_range ch 0 ((d.ops.length : Int) + 1) (by omega)
    have hqn : choM ch 0 ((d.ops.length : Int) + 1) = ((prefM d ch : Nat) : Int) := (Int.toNat_of_nonneg hq.1).symm
    have HPQ := hide hqn
    have hr : r = setM ⟨cutK ch d.inodes.length d.inodes, l, d.dur, d.ops⟩ := by rw [HR.out]; unfold crashM; rw [hvd, hl]; rfl
    have HRR := hide hr
    obtain ⟨pq, hpq⟩ : ∃ pq, pq = prefM d ch := ⟨_, rfl⟩
    rw [← hpq] at HPQ hl
    have hpl : pq ≤ d.ops.length := by rw [hpq]; omega
    have HLR := hide hlr
    have HL := hide hl
    have HVD := hide ((valid_iff d).1 hvd)
    have HCL := hide (clone_any _ d w1 (HD0.out.below HB1.out) HS.out)
    clear hvd hr hl hlr hln hq hqn hpq HR y0 y1 y2 y3 l1 f1
    have d0 : w1.cell? ⟨w.heap.size, 0, none⟩ = some _ := C0.out.cell rfl
    have d1 : w1.cell? ⟨w.heap.size, 1, none⟩ = some _ := C0.out.cell rfl
    have d2 : w1.cell? ⟨w.heap.size, 2, none⟩ = some _ := C0.out.cell rfl
    have d3 : w1.cell? ⟨w.heap.size, 3, none⟩ = some _ := C0.out.cell rfl
    have hw1 := C1.out.lt
    go_wp2_with fail
    refine HCL.out.mono ?_
    rintro e w2 ⟨A1, N, p1, A2, m2, p2, A3, m3, p3, A4, m4, p4, rfl, how, hb2⟩
    have D0 := hide (C0.out.below hb2)
    have DC := hide (CC.out.below hb2)
    have D1 := hide (C1.out.below hb2)
    have DO := hide (how.base (show w.heap.size + 1 + 1 + 1 ≤ w1.heap.size by omega))
    have HB2 := hide (HB1.out.trans (hb2.mono HB1.out.size))
    clear how hb2 HCL C0 C1 CC HB1 d0 d1 d2 d3 hw1
    have d0 : w2.cell? ⟨w.heap.size, 0, none⟩ = some _ := D0.out.cell rfl
    have d1 : w2.cell? ⟨w.heap.size, 1, none⟩ = some _ := D0.out.cell rfl
    have d2 : w2.cell? ⟨w.heap.size, 2, none⟩ = some _ := D0.out.cell rfl
    have d3 : w2.cell? ⟨w.heap.size, 3, none⟩ = some _ := D0.out.cell rfl
    have l0 := D0.out.lt
    have f0 := D0.out.fr
    obtain ⟨W4, hW4⟩ : ∃ W4, W4 = set4 w2 w.heap.size (.slice A1 N p1) (.slice A2 m2 p2) (.slice A3 m3 p3) (.slice A4 m4 p4) := ⟨_, rfl⟩
    have E0 := hide (show Blk W4 w.heap.size _ _ by rw [hW4]; exact D0.out.set4 _ _ _ _)
    have EC := hide (show Blk W4 (w.heap.size + 1) _ _ by rw [hW4]; exact DC.out.set4ne (by omega) _ _ _ _)
    have E1 := hide (show Blk W4 (w.heap.size + 1 + 1) _ _ by rw [hW4]; exact D1.out.set4ne (by omega) _ _ _ _)
    have EO := hide (show OwD W4 (w.heap.size + 1 + 1 + 1) A1 N p1 A2 m2 p2 A3 m3 p3 A4 m4 p4 d by rw [hW4]; exact DO.out.set4 D0.out _ _ _ _)
    have HB4 := hide (show Below w.heap.size w W4 by rw [hW4]; exact bl_set4 HB2.out (Nat.le_refl _) _ _ _ _)
    have HW4 := hide (show set4 w2 w.heap.size (.slice A1 N p1) (.slice A2 m2 p2) (.slice A3 m3 p3) (.slice A4 m4 p4) = W4 from hW4.symm)
    unfold set4 at HW4
    clear hW4 D0 DC D1 DO HB2
    go_wp2_with fail
    rw [HW4.out]
    clear HW4 d0 d1 d2 d3 l0 f0
    have hm4 : m4 ≤ 100000 := by rw [EO.out.e4]; exact HS.out.2.2.2
    have hpm : pq ≤ m4 := by rw [EO.out.e4]; exact hpl
    have hpi : (pq : Int) ≤ (p4 : Int) := by have := (own_Rds EO.out.o4).1.1; omega
    rw [← EO.out.e4] at HPQ
    have HCC := hide (fun (wx : World) (hC : CB W4.drew wx) => show wx.cell? ⟨w.heap.size, 0, none⟩ = some (.slice A1 N p1) ∧ wx.cell? ⟨w.heap.size, 1, none⟩ = some (.slice A2 m2 p2) ∧ wx.cell? ⟨w.heap.size, 2, none⟩ = some (.slice A3 m3 p3) ∧ wx.cell? ⟨w.heap.size, 3, none⟩ = some (.slice A4 m4 p4) from ⟨(E0.out.below hC.below).cell rfl, (E0.out.below hC.below).cell rfl, (E0.out.below hC.below).cell rfl, (E0.out.below hC.below).cell rfl⟩)
    have HC0 := hide (fun (wx : World) (hb : Below W4.heap.size W4 wx) => show Calls Try.prog 48 #[.int .i64 0, .int .i64 ((m4 : Int) + 1), .pointer (some ⟨w.heap.size + 1, 0, none⟩)] wx fun e w' => e = .returned (.int .i64 (pq : Int)) ∧ wx = w' from by
      rw [← HPQ.out]; exact HCO.out wx (w.heap.size + 1) (HB4.out.trans (hb.mono HB4.out.size)) (EC.out.below hb) 0 ((m4 : Int) + 1) (by omega) (by omega) (by omega))
    have HRP := hide (fun (wx : World) (hb : Below W4.heap.size W4 wx) => replay_any _ d A4 pq p4 (d.ops.take pq) wx ((EO.out.below hb).isD) (RO.take ⟨EO.out.e4, (own_Rds (EO.out.below hb).o4).2⟩ hpm) (by omega) ⟨HS.out.1, HS.out.2.2.1, HS.out.2.2.2⟩ (srt_dir HVD.out.2.1) HVD.out.2.2.1)
    rw [HL.out] at HRP
    have ew : IntKind.i64.wrap ((m4 : Int) + 1) = (m4 : Int) + 1 := wrap_ok (by omega) (by omega)
    refine wp_region_V 16 (GP W4 w.heap.size l.length (l.flatMap encE)) (fun _ _ _ => True) (by kernel_rfl) (by kernel_rfl) (by kernel_rfl) (by constructor; exact ⟨W4.drew, bl_drew (bl_refl W4), by simp⟩; all_goals (intro h; exact absurd h (by decide))) (fun Q HQ => ?_)
    simp only [List.take_succ_cons, List.take_zero, List.map_cons, List.map_nil]
    have HC8 := hide (fun (wx : World) (hb : Below W4.heap.size W4 wx) => show wx.cell? ⟨w.heap.size, 0, none⟩ = some (.slice A1 N p1) ∧ wx.cell? ⟨w.heap.size, 1, none⟩ = some (.slice A2 m2 p2) ∧ wx.cell? ⟨w.heap.size, 2, none⟩ = some (.slice A3 m3 p3) ∧ wx.cell? ⟨w.heap.size, 3, none⟩ = some (.slice A4 m4 p4) from ⟨(E0.out.below hb).cell rfl, (E0.out.below hb).cell rfl, (E0.out.below hb).cell rfl, (E0.out.below hb).cell rfl⟩)
    repeat
      first | apply wpV_c rfl | apply wpV_gc rfl (guard_mk rfl rfl)
      focus
        intro L tm ev wx hG hL hM hT hx
        clear hT
        (try simp [Op.operands, Call.operands, opndS, Slot.holds] at hx)
        have hbx := (hG.bel (by decide) (by decide) hL).1
        obtain ⟨k0, k1, k2, k3⟩ := HC8.out wx hbx
        go_simp
        exact ⟨hG.move (by decide) (by decide) _, trivial, rfl⟩
        done
      dsimp only [setS, List.set]
    refine wpV_c (v := .int .i64 (pq : Int)) rfl ?_ ?_
    focus
      intro L tm ev wx hG hL hM hT hx
      clear hT
      (try simp [Op.operands, Call.operands, opndS, Slot.holds] at hx)
      have hbx := (hG.bel (by decide) (by decide) hL).1
      go_simp
      refine (HC0.out _ hbx).mono ?_
      rintro e w' ⟨rfl, rfl⟩
      exact ⟨_, rfl, hG.move (by decide) (by decide) _, trivial, rfl⟩
    dsimp only [setS, List.set]
    repeat
      first | apply wpV_c rfl | apply wpV_gc rfl (guard_mk rfl rfl)
      focus
        intro L tm ev wx hG hL hM hT hx
        clear hT
        (try simp [Op.operands, Call.operands, opndS, Slot.holds] at hx)
        have hbx := (hG.bel (by decide) (by decide) hL).1
        obtain ⟨k0, k1, k2, k3⟩ := HC8.out wx hbx
        go_simp
        exact ⟨hG.move (by decide) (by decide) _, trivial, rfl⟩
        done
      dsimp only [setS, List.set]
    refine wpV_p (R := fun _ _ => True) rfl (fun _ _ _ _ _ _ _ _ => trivial) ?_ ?_
    focus
      intro L tm ev wx hG hL hM hT hx
      clear hT
      (try simp [Op.operands, Call.operands, opndS, Slot.holds] at hx)
      have hbx := (hG.bel (by decide) (by decide) hL).1
      go_simp
      refine (HRP.out _ hbx).mono ?_
      rintro e w' ⟨hb, -, hok⟩
      obtain ⟨u, rfl, hown⟩ := hok l rfl
      exact ⟨_, rfl, hG.c10 hL hown hb, trivial, trivial⟩
    dsimp only [setS, List.set]
    refine wpV_p (R := fun _ _ => True) rfl (fun _ _ _ _ _ _ _ _ => trivial) ?_ ?_
    focus
      intro L tm ev wx hG hL hM hT hx
      have h29 := hT 29
      have h10 := hM 10 (by decide) (by kernel_rfl)
      clear hT hx
      go_simp
      exact ⟨hG.c11 hL h10, trivial, trivial⟩
    dsimp only [setS, List.set]
    refine wpV_p (R := fun _ _ => True) rfl (fun _ _ _ _ _ _ _ _ => trivial) ?_ ?_
    focus
      intro L tm ev wx hG hL hM hT hx
      have h11 := hM 11 (by decide) (by kernel_rfl)
      obtain ⟨u, hu, -⟩ := hG.r10 (hG.m11 h11)
      have h18 : ev (.tmp 18) = .tuple #[u, .bool true] := by rw [hT 18, hG.r11 h11, hu]
      clear hT hx
      go_simp
      exact ⟨hG.c12 hL h11 hu, trivial, trivial⟩
    dsimp only [setS, List.set]
    refine wpV_c (v := .bool true) rfl ?_ ?_
    focus
      intro L tm ev wx hG hL hM hT hx
      have h11 := hM 11 (by decide) (by kernel_rfl)
      obtain ⟨u, hu, -⟩ := hG.r10 (hG.m11 h11)
      have h18 : ev (.tmp 18) = .tuple #[u, .bool true] := by rw [hT 18, hG.r11 h11, hu]
      clear hT hx
      go_simp
      exact ⟨hG.move (by decide) (by decide) _, trivial, rfl⟩
    dsimp only [setS, List.set]
    repeat
      first | apply wpV_c rfl | apply wpV_gc rfl (guard_mk rfl rfl)
      focus
        intro L tm ev wx hG hL hM hT hx
        clear hT
        (try simp [Op.operands, Call.operands, opndS, Slot.holds] at hx)
        go_simp
        exact ⟨hG.move (by decide) (by decide) _, trivial, rfl⟩
        done
      dsimp only [setS, List.set]
    apply wpV_c rfl
    focus
      intro L tm ev wx hG hL hM hT hx
      have h30 := hT 30
      clear hT
      (try simp [Op.operands, Call.operands, opndS, Slot.holds] at hx)
      have hmm : ∀ j, j < 15 → j ≠ 13 → L j = true := fun j hj h13 => by
        have hj2 : j = 0 ∨ j = 1 ∨ j = 2 ∨ j = 3 ∨ j = 4 ∨ j = 5 ∨ j = 6 ∨ j = 7 ∨ j = 8 ∨ j = 9 ∨ j = 10 ∨ j = 11 ∨ j = 12 ∨ j = 14 := by omega
        rcases hj2 with rfl | rfl | rfl | rfl | rfl | rfl | rfl | rfl | rfl | rfl | rfl | rfl | rfl | rfl <;> exact hM _ (by decide) (by kernel_rfl)
      obtain ⟨wy, hby, hwy⟩ := hG.b
      rw [hL] at hwy
      simp only [Bool.false_eq_true, if_false] at hwy
      have hbx : Below W4.heap.size W4 wx := by rw [hwy]; exact hby
      obtain ⟨k0, k1, k2, k3⟩ := HC8.out wx hbx
      have kf : wx.frozen? ⟨w.heap.size, 1, none⟩ = false := (E0.out.below hbx).fr _
      clear hby hwy
      obtain ⟨u, hu, huo⟩ := hG.r10 (hmm 10 (by decide) (by decide))
      have hu2 := hG.r12 (hmm 12 (by decide) (by decide))
      have hu3 : u = tm 30 := by
        rw [hu] at hu2
        injection hu2 with hu2
        have := congrArg (fun (x : Array Value) => x[0]?) hu2
        simpa using this
      obtain ⟨A5, c5, hu4, -, -⟩ := ownG_form huo
      have e30 : tm 30 = .slice A5 l.length c5 := by rw [← hu3, hu4]
      have hfin := hG.c15 hL E0.out.lt hmm
      rw [e30] at h30 hfin
      clear hu hu2 hu3 huo hu4 hmm hG
      go_simp
      exact ⟨hfin, trivial, rfl⟩
    dsimp only [setS, List.set]
    refine wpV_nil (HQ _ fun w5 => ?_)
    simp only [closeS, List.drop_succ_cons, List.drop_zero]
    rintro v18 - v29 - v30 - hG
    have hu := hG.r12 rfl
    have hu29 : v29 = .tuple #[v30, .bool true] := hu
    obtain ⟨u, hu0, huo⟩ := hG.r10 rfl
    have hu' : v29 = .tuple #[u, .bool true] := hu0
    have hu3 : u = v30 := by
      rw [hu29] at hu'
      injection hu' with hu'
      have := congrArg (fun (x : Array Value) => x[0]?) hu'
      simpa using this.symm
    subst hu3
    obtain ⟨wy, hby, hwy0⟩ := hG.b
    have hwy : w5 = wy.setCell ⟨w.heap.size, 1, none⟩ u := hwy0
    obtain ⟨A5, p5, rfl, -, -⟩ := ownG_form huo
    have hap := apart_new EO.out.o3 huo
    have hEl := E1.out.lt
    have F0 := hide (show Blk w5 w.heap.size [.slice A1 N p1, .slice A5 l.length p5, .slice A3 m3 p3, .slice A4 m4 p4] 27 by rw [hwy]; exact (E0.out.below hby).set 1 _)
    have FC := hide (show Blk w5 (w.heap.size + 1) [.slice ca cn cc] 22 by rw [hwy]; exact (EC.out.below hby).setne (by omega) _ _)
    have F1 := hide (show Blk w5 (w.heap.size + 1 + 1) [.slice none 0 0, .slice none 0 0, .slice none 0 0, .slice none 0 0] 27 by rw [hwy]; exact (E1.out.below hby).setne (by omega) _ _)
    have FO := hide (show OwD w5 (w.heap.size + 1 + 1 + 1) A1 N p1 A5 l.length p5 A3 m3 p3 A4 m4 p4 ⟨d.inodes, l, d.dur, d.ops⟩ from OwD.dirN (d := d) (A2 := A2) (n2 := m2) (p2 := p2) (by rw [hwy]; exact (EO.out.below hby).setC (E0.out.below hby) _ _) (own_baseG huo (by omega)) rfl hap.symm)
    have HB5 := hide (show Below w.heap.size w w5 by rw [hwy]; exact bl_setG (HB4.out.trans (hby.mono HB4.out.size)) (Nat.le_refl _) _ _)
    clear hG hu hu29 hu' hu0 huo hby hwy hwy0 hap hEl E0 EC E1 EO HB4 HQ HC8 HCC HC0 HRP
    have d0 : w5.cell? ⟨w.heap.size, 0, none⟩ = some _ := F0.out.cell rfl
    go_wp2_with fail
    clear d0
    have HNN := hide (show N = d.inodes.length from FO.out.e1)
    have hN9 : N ≤ 100000 := by rw [HNN.out]; exact HS.out.1
    have HD0' := hide (show OwD w5 (w.heap.size + 1 + 1 + 1) A1 N p1 A5 l.length p5 A3 m3 p3 A4 m4 p4 ⟨cutK ch 0 d.inodes, l, d.dur, d.ops⟩ by rw [cutK_zero]; exact FO.out)
    clear FO
    clear ew hpl hpm hpi hm4
    go_loopw [36] (fun kv wr => ∃ (k : Nat), kv = .int .i64 (k : Int) ∧ k ≤ N ∧ Hid (Blk wr w.heap.size [.slice A1 N p1, .slice A5 l.length p5, .slice A3 m3 p3, .slice A4 m4 p4] 27) ∧ Hid (Blk wr (w.heap.size + 1) [.slice ca cn cc] 22) ∧ Hid (Blk wr (w.heap.size + 1 + 1) [.slice none 0 0, .slice none 0 0, .slice none 0 0, .slice none 0 0] 27) ∧ Hid (OwD wr (w.heap.size + 1 + 1 + 1) A1 N p1 A5 l.length p5 A3 m3 p3 A4 m4 p4 ⟨cutK ch k d.inodes, l, d.dur, d.ops⟩) ∧ Hid (Below w.heap.size w wr)) (fun kv _ => N - (intOf kv).toNat)
    case atStart => exact ⟨0, rfl, by omega, F0, FC, F1, HD0', HB5⟩
    case round =>
      clear F0 FC F1 HD0' HB5
      obtain ⟨k, rfl, hk, F0, FC, F1, FO, HB6⟩ := hrel
      have d0 : wr.cell? ⟨w.heap.size, 0, none⟩ = some _ := F0.out.cell rfl
      by_cases hlt : k < N
      · obtain ⟨⟨xd, xs⟩, hx⟩ : ∃ e, d.inodes[k]? = some e := ⟨_, List.getElem?_eq_getElem (by rw [← HNN.out]; exact hlt)⟩
        have hxk : (cutK ch k d.inodes)[k]? = some (xd, xs) := by rw [cutK_get, hx]; simp
        have HX := hide hx
        have HXK := hide hxk
        obtain ⟨hs0, hs1, hxl⟩ : 0 ≤ xs ∧ xs ≤ xd.length ∧ xd.length ≤ 1048576 := by
          have := HVD.out.2.2.2.2.1 k _ hx
          unfold inodeM at this
          simp only [Bool.and_eq_true, decide_eq_true_eq] at this
          exact ⟨this.1.1.2, this.1.2, this.2⟩
        obtain ⟨g1, cur, rfl, hg1, -⟩ := ownG_inv FO.out.o1 (by omega)
        obtain ⟨x0, fx0⟩ := ownG_at FO.out.o1 (flat_get encE_len _ k 0 _ _ hxk rfl)
        obtain ⟨x1, fx1⟩ := ownG_at FO.out.o1 (flat_get encE_len _ k 1 _ _ hxk rfl)
        rw [Nat.add_zero] at x0 fx0
        have hkn : (k : Int) < (N : Int) := by omega
        clear hx hxk
        go_wp2_with fail
        have HC5 := hide (fun (wx : World) (hC : CB wr.drew wx) => show wx.cell? ⟨g1, k * 2, none⟩ = some (.string (bstr xd)) ∧ wx.cell? ⟨g1, k * 2 + 1, none⟩ = some (.int .i64 xs) from ⟨hC.cell x0, hC.cell x1⟩)
        refine wp_region_K 15 (by kernel_rfl) (by kernel_rfl) (fun Q HQ => ?_)
        simp only [List.take_succ_cons, List.take_zero, List.map_cons, List.map_nil]
        repeat
          first | apply wpS_c rfl | apply wpS_gc rfl (guard_mk rfl rfl)
          focus
            intro ev wx hC hx
            (try simp [Op.operands, Call.operands, opndS, Slot.holds] at hx)
            obtain ⟨k0, k1⟩ := HC5.out wx hC
            go_simp
            try (first | exact rfl | exact ⟨Below.refl _ _, rfl⟩)
            done
          dsimp only [setS, List.set]
        refine wpS_nil (HQ _ fun w6 hC6 => ?_)
        simp only [closeS, List.drop_succ_cons, List.drop_zero, List.drop_nil]
        have hb6 := hC6.below
        have E0 := hide (F0.out.below hb6)
        have EC := hide (FC.out.below hb6)
        have E1 := hide (F1.out.below hb6)
        have EO := hide (FO.out.below hb6)
        have HB7 := hide (HB6.out.trans (hb6.mono HB6.out.size))
        clear hb6 hC6 HQ F0 FC F1 FO HB6 d0 x0 fx0 x1 fx1 HC5
        have e43 : IntKind.i64.wrap (IntKind.i64.wrap (2 * (k : Int)) + 1) = 2 * (k : Int) + 1 := by rw [wrap_ok (x := 2 * (k : Int)) (by omega) (by omega), wrap_ok (by omega) (by omega)]
        have e54 : IntKind.i64.wrap (IntKind.i64.wrap (((bstr xd).size : Int) - xs) + 1) = (xd.length : Int) - xs + 1 := by rw [bstr_size, wrap_ok (x := (xd.length : Int) - xs) (by omega) (by omega), wrap_ok (by omega) (by omega)]
        rw [e43, e54]
        clear e43 e54
        obtain ⟨q0, q1, q2, q3, q4⟩ := cut_range (ch := ch) (j := k) (e := (xd, xs)) hs0 hs1
        obtain ⟨p, hp⟩ : ∃ p, p = keptP ch k (xd, xs) := ⟨_, rfl⟩
        obtain ⟨z, hz⟩ : ∃ z, z = zeroP ch k (xd, xs) := ⟨_, rfl⟩
        rw [← hp] at q0 q1 q3
        rw [← hz] at q2 q3 q4
        have HP := hide hp
        have HZ := hide hz
        have hp' : p = choM ch (2 * k + 1) ((xd.length : Int) - xs + 1) := hp
        have hz' : z = choM ch (2 * k + 2) (min p 4 + 1) := by rw [hz]; unfold zeroP; rw [← hp]
        have i1 : 2 * k + 1 ≤ 1000000000 := by omega
        have i2 : 2 * k + 2 ≤ 1000000000 := by omega
        have j1 : 1 ≤ (xd.length : Int) - xs + 1 := by omega
        have j2 : (xd.length : Int) - xs + 1 ≤ 1000000000 := by omega
        have j3 : 1 ≤ min p 4 + 1 := by omega
        have j4 : min p 4 + 1 ≤ 1000000000 := by omega
        have hc1 := HCO.out w6 (w.heap.size + 1) HB7.out EC.out (2 * k + 1) ((xd.length : Int) - xs + 1) i1 j1 j2
        have hc2 := HCO.out w6 (w.heap.size + 1) HB7.out EC.out (2 * k + 2) (min p 4 + 1) i2 j3 j4
        rw [← hp', show ((2 * k + 1 : Nat) : Int) = 2 * (k : Int) + 1 by push_cast; rfl] at hc1
        rw [← hz', show ((2 * k + 2 : Nat) : Int) = 2 * (k : Int) + 2 by push_cast; rfl] at hc2
        have HC1 := hide hc1
        have HC2 := hide hc2
        clear hc1 hc2 i1 i2 j1 j2 j3 j4 hp' hz'
        simp only [] at q1
        have HQQ := hide (And.intro q0 (And.intro q1 (And.intro q2 (And.intro q3 q4))))
        have hmn : RowKit.wrap64 (min p 4 + 1) = min p 4 + 1 := by unfold RowKit.wrap64; omega
        have HMN := hide hmn
        obtain ⟨x0, fx0⟩ := ownG_at EO.out.o1 (flat_get encE_len _ k 0 _ _ HXK.out rfl)
        obtain ⟨x1, fx1⟩ := ownG_at EO.out.o1 (flat_get encE_len _ k 1 _ _ HXK.out rfl)
        rw [Nat.add_zero] at x0 fx0
        have e74 : IntKind.i64.wrap (xs + p) = xs + p := wrap_ok (by omega) (by omega)
        have e76 : IntKind.i64.wrap (xs + p - z) = xs + p - z := wrap_ok (by omega) (by omega)
        have c77 : z ≤ xs + p := by omega
        have d77 : xs + p - z ≤ ((bstr xd).size : Int) := by rw [bstr_size]; omega
        have E7 := hide (And.intro e74 (And.intro e76 (And.intro c77 d77)))
        have HRE := hide (fun wx : World => show Calls Try.prog 50 #[.string ⟨#[0]⟩, .int .i64 z] wx fun e w' => e = .returned (.string (bstr (List.replicate z.toNat 0))) ∧ Below wx.heap.size wx w' by have h7 := repeat_any z.toNat wx (by omega); rwa [Int.toNat_of_nonneg q2] at h7)
        obtain ⟨⟨nd, ns⟩, hcm⟩ : ∃ e, e = cutM ch k (xd, xs) := ⟨_, rfl⟩
        have hns : ns = xs + p ∧ (nd.length : Int) = xs + p := by
          have h2 : ns = (cutM ch k (xd, xs)).2 := by rw [← hcm]
          have h1 : nd = (cutM ch k (xd, xs)).1 := by rw [← hcm]
          have h3 : ns = xs + p := by rw [h2]; unfold cutM; rw [← HP.out]
          exact ⟨h3, by rw [h1, cutM_len hs0 hs1, ← h2, h3]⟩
        have HNS := hide hns
        have HND := hide (show (bstr xd).extract 0 (xs + p - z).toNat ++ bstr (List.replicate z.toNat 0) = bstr nd by
          rw [str_sub rfl, bstr_app, List.drop_zero, show nd = (cutM ch k (xd, xs)).1 by rw [← hcm]]
          unfold cutM
          rw [← HP.out, ← HZ.out])
        have HCM := hide hcm
        obtain ⟨S1, hS1⟩ : ∃ S1, S1 = (bstr xd).extract 0 (xs + p - z).toNat := ⟨_, rfl⟩
        obtain ⟨S2, hS2⟩ : ∃ S2, S2 = bstr (List.replicate z.toNat 0) := ⟨_, rfl⟩
        obtain ⟨S3, hS3⟩ : ∃ S3, S3 = bstr nd := ⟨_, rfl⟩
        have hss : S1.size + S2.size ≤ 9223372036854775807 := by
          rw [hS1, hS2, str_sub rfl, bstr_size, bstr_size]
          simp
          omega
        rw [← hS1, ← hS2, ← hS3] at HND
        have HS1 := hide hS1.symm
        have HSS := hide hss
        have HS3 := hide hS3
        rw [← hS2] at HRE
        clear hp hz q0 q1 q2 q3 q4 hmn hns hcm e74 e76 c77 d77 hS1 hS2 hS3 hss
        go_wp2_with fail
        refine HC1.out.mono ?_
        rintro e w' ⟨rfl, rfl⟩
        go_wp2_with fail
        rw [HMN.out]
        refine HC2.out.mono ?_
        rintro e w' ⟨rfl, rfl⟩
        have e74 := E7.out.1
        go_wp2_with fail
        clear e74
        have HC7 := hide (fun (wx : World) (hC : CB w6.drew wx) => show wx.cell? ⟨g1, k * 2, none⟩ = some (.string (bstr xd)) ∧ wx.cell? ⟨g1, k * 2 + 1, none⟩ = some (.int .i64 xs) from ⟨hC.cell x0, hC.cell x1⟩)
        refine wp_region_K 14 (by kernel_rfl) (by kernel_rfl) (fun Q HQ => ?_)
        simp only [List.take_succ_cons, List.take_zero, List.map_cons, List.map_nil]
        repeat
          first | apply wpS_c rfl | apply wpS_gc rfl (guard_mk rfl rfl)
          focus
            intro ev wx hC hx
            (try simp [Op.operands, Call.operands, opndS, Slot.holds] at hx)
            obtain ⟨k0, k1⟩ := HC7.out wx hC
            obtain ⟨e74, e76, c77, d77⟩ := E7.out
            have eS := HS1.out
            go_simp
            try (first | exact rfl | exact ⟨Below.refl _ _, rfl⟩ | ((refine (HRE.out wx).mono ?_; rintro e w' ⟨rfl, hb⟩; exact ⟨rfl, hb⟩)))
            done
          dsimp only [setS, List.set]
        apply wpS_c (v := .string S3) rfl
        focus
          intro ev wx hC hx
          (try simp [Op.operands, Call.operands, opndS, Slot.holds] at hx)
          have hss : ¬ 9223372036854775807 < S1.size + S2.size := by have := HSS.out; omega
          go_simp
          exact ⟨Below.refl _ _, HND.out⟩
        dsimp only [setS, List.set]
        repeat
          first | apply wpS_c rfl | apply wpS_gc rfl (guard_mk rfl rfl)
          focus
            intro ev wx hC hx
            (try simp [Op.operands, Call.operands, opndS, Slot.holds] at hx)
            obtain ⟨k0, k1⟩ := HC7.out wx hC
            go_simp
            try (first | exact rfl | exact ⟨Below.refl _ _, rfl⟩)
            done
          dsimp only [setS, List.set]
        refine wpS_nil (HQ _ fun w7 hC7 => ?_)
        simp only [closeS, List.drop_succ_cons, List.drop_zero, List.drop_nil]
        have hb7 := hC7.below
        have I0 := hide (E0.out.below hb7)
        have IC := hide (EC.out.below hb7)
        have I1 := hide (E1.out.below hb7)
        have IOx := hide (EO.out.below hb7)
        have IB := hide (HB7.out.trans (hb7.mono HB7.out.size))
        clear hb7 hC7 HQ E0 EC E1 EO HB7 x0 fx0 x1 fx1 HC7
        obtain ⟨x0, fx0⟩ := ownG_at IOx.out.o1 (flat_get encE_len _ k 0 _ _ HXK.out rfl)
        obtain ⟨x1, fx1⟩ := ownG_at IOx.out.o1 (flat_get encE_len _ k 1 _ _ HXK.out rfl)
        rw [Nat.add_zero] at x0 fx0
        go_wp2
        rw [HS3.out, ← HNS.out.1]
        go_roundw
        case rel =>
          have KO0 := IOx.out.setD (j := k) (e := (xd, xs)) HXK.out nd
          have KO1 := KO0.setS (j := k) (e := (nd, xs)) (by simp only []; rw [List.getElem?_set_self (by rw [cutK_len, ← HNN.out]; exact hlt)]) ns
          simp only [] at KO1
          rw [List.set_set, HCM.out, cutK_set ch k d.inodes _ HX.out] at KO1
          refine ⟨k + 1, by go_num, by omega, hide ((I0.out.setne (by omega) _ _).setne (by omega) _ _), hide ((IC.out.setne (by omega) _ _).setne (by omega) _ _), hide ((I1.out.setne (by omega) _ _).setne (by omega) _ _), hide KO1, hide (bl_setG (bl_setG IB.out (by omega) _ _) (by omega) _ _)⟩
        case measure => simp [intOf]; omega
      · obtain rfl : k = N := by omega
        have hkn : ¬ (k : Int) < (k : Int) := by omega
        have d1 : wr.cell? ⟨w.heap.size, 1, none⟩ = some _ := F0.out.cell rfl
        have d2 : wr.cell? ⟨w.heap.size, 2, none⟩ = some _ := F0.out.cell rfl
        have d3 : wr.cell? ⟨w.heap.size, 3, none⟩ = some _ := F0.out.cell rfl
        have hlt1 := F1.out.lt
        have HST := hide (settle_any (w.heap.size + 1 + 1 + 1) A1 k p1 A5 l.length p5 A3 m3 p3 A4 m4 p4 ⟨cutK ch k d.inodes, l, d.dur, d.ops⟩ wr FO.out (by omega) ⟨by rw [cutK_len, ← HNN.out]; exact hN9, HLL.out, HS.out.2.2.1, HS.out.2.2.2⟩ (fun e he => by simp only [cutK_len]; exact HLR.out e he))
        have HRO := hide (show ∀ q, (Value.slice A5 l.length p5).ownBlock = some q → w.heap.size + 1 + 1 + 1 ≤ q from fun q hq => (ownG_lt FO.out.o2 hq).1)
        go_wp2_with fail
        refine HST.out.mono ?_
        rintro e w8 ⟨B1, M1, P1, B2, M2, P2, B3, M3, P3, B4, M4, P4, rfl, how, hgr⟩
        have J1 := hide (F1.out.grown hgr (fun e => by have := HRO.out _ e; omega))
        have JO := hide how
        have JB := hide (bl_ofgr HB6.out (by omega) hgr (fun q hq => by have := HRO.out q hq; omega))
        clear how hgr d0 d1 d2 d3 HST
        have y0 : w8.cell? ⟨w.heap.size + 1 + 1, 0, none⟩ = some _ := J1.out.cell rfl
        have y1 : w8.cell? ⟨w.heap.size + 1 + 1, 1, none⟩ = some _ := J1.out.cell rfl
        have y2 : w8.cell? ⟨w.heap.size + 1 + 1, 2, none⟩ = some _ := J1.out.cell rfl
        have y3 : w8.cell? ⟨w.heap.size + 1 + 1, 3, none⟩ = some _ := J1.out.cell rfl
        have l1 := J1.out.lt
        have f1 := J1.out.fr
        go_wp2
        refine bodyPost_ret (results_cell_row Try.results20 _ _ (w.heap.size + 1 + 1) 27 #[.slice B1 M1 P1, .slice B2 M2 P2, .slice B3 M3 P3, .slice B4 M4 P4] (0, 0) _ rfl (J1.out.set4 _ _ _ _) Try.underlying27 rfl (by kernel_rfl)) rfl ?_
        rw [HRR.out, ← HNN.out]
        exact ⟨_, rfl, (JO.out.set4 J1.out _ _ _ _).isD, bl_set4 JB.out (by omega) _ _ _ _⟩
end Go.Proofs.Ytjpmfiicbokdcaa
