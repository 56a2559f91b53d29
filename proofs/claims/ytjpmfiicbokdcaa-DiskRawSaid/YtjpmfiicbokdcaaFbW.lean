/- The tape laws' disks. -/
import Derived.Test.YtjpmfiicbokdcaaFaW
import Derived.Test.YtjpmfiicbokdcaaEfW
import Derived.Test.YtjpmfiicbokdcaaVM
namespace Go.Proofs.Ytjpmfiicbokdcaa
open Go.RowKit
set_option linter.unusedVariables false
set_option linter.unusedSimpArgs false
theorem tape_no_str {w : World} {g : Nat} (ht : IsTape w g) (o : Nat) (s : ByteArray) : w.cell? ⟨g, o, none⟩ ≠ some (.string s) := by
  obtain ⟨a, zs, c, n, at_, -, -, -, hq, -, -⟩ := ht
  rw [cell_of_row w g o _ _ _ hq]
  match o with
  | 0 => intro h; cases h
  | 1 => intro h; cases h
  | o + 2 => simp
theorem rd_tape {w w' : World} {g k : Nat} {a : Option Addr} {xs : List Value} {s : ByteArray} (ht : IsTape w g) (h : Rd w a xs) (hs : xs = [] ∨ xs[k]? = some (.string s)) (hg : w.grownBy w' (some g)) : Rd w' a xs := by
  rcases h with h | ⟨b, o, rfl, hb, hc⟩
  · exact .inl h
  rcases hs with hs | hs
  · exact .inl hs
  have hne : b ≠ g := fun e => by subst e; exact tape_no_str ht _ _ (hc k _ hs)
  exact .inr ⟨b, o, rfl, Nat.lt_of_lt_of_le hb hg.size, fun j v hv => (World.cell?_of_block (hg.block b hb (fun e => hne (by injection e)))).trans (hc j v hv)⟩
theorem RE.tape {w w' : World} {g n : Nat} {a : Option Addr} {l : List Ent} (ht : IsTape w g) (h : RE w a n l) (hg : w.grownBy w' (some g)) : RE w' a n l :=
  ⟨h.1, by
    cases l with
    | nil => exact .inl rfl
    | cons e l => exact rd_tape (k := 0) (s := bstr e.1) ht h.2 (.inr rfl) hg⟩
theorem RO.tape {w w' : World} {g n : Nat} {a : Option Addr} {l : List DOp} (ht : IsTape w g) (h : RO w a n l) (hg : w.grownBy w' (some g)) : RO w' a n l :=
  ⟨h.1, by
    cases l with
    | nil => exact .inl rfl
    | cons e l => exact rd_tape (k := 1) (s := bstr e.2.1) ht h.2 (.inr rfl) hg⟩
theorem IsD.tape {w w' : World} {v : Value} {d : Dsk} {g : Nat} (ht : IsTape w g) (h : IsD w v d) (hg : w.grownBy w' (some g)) : IsD w' v d := by
  obtain ⟨a1, n1, c1, a2, n2, c2, a3, n3, c3, a4, n4, c4, rfl, h1, h2, h3, h4, h5⟩ := h.h
  exact ⟨a1, n1, c1, a2, n2, c2, a3, n3, c3, a4, n4, c4, rfl, RE.tape ht h1 hg, RE.tape ht h2 hg, RE.tape ht h3 hg, RO.tape ht h4 hg, h5⟩
theorem app_nil {d : Dsk} {o : DOp} (h : (appM d o).2 ≠ 0) : (appM d o).1 = .nil := by
  revert h
  unfold appM
  simp only []
  split
  · intro _; rfl
  split
  · intro h; exact absurd rfl h
  split
  · split
    · intro _; rfl
    split
    · intro h; exact absurd rfl h
    split
    · intro _; rfl
    · intro h; exact absurd rfl h
  split
  · intro _; rfl
  · intro h; exact absurd rfl h
/-- A box with a disk. -/
def BxD (w : World) (B : Nat) (d : Dsk) : Prop := ∃ a1 n1 c1 a2 n2 c2 a3 n3 c3 a4 n4 c4, Blk w B [.slice a1 n1 c1, .slice a2 n2 c2, .slice a3 n3 c3, .slice a4 n4 c4] 27 ∧ IsD w (.agg #[.slice a1 n1 c1, .slice a2 n2 c2, .slice a3 n3 c3, .slice a4 n4 c4]) d
theorem BxD.lt {w : World} {B : Nat} {d : Dsk} (h : BxD w B d) : B < w.heap.size := by
  obtain ⟨_, _, _, _, _, _, _, _, _, _, _, _, h, _⟩ := h
  exact h.lt
theorem BxD.below {w w' : World} {B : Nat} {d : Dsk} (h : BxD w B d) (hb : Below w.heap.size w w') : BxD w' B d := by
  obtain ⟨_, _, _, _, _, _, _, _, _, _, _, _, h, h'⟩ := h
  exact ⟨_, _, _, _, _, _, _, _, _, _, _, _, h.below hb, h'.below hb⟩
theorem BxD.tape {w w' : World} {B g : Nat} {d : Dsk} (h : BxD w B d) (ht : IsTape w g) (hg : w.grownBy w' (some g)) (hne : g ≠ B) : BxD w' B d := by
  obtain ⟨_, _, _, _, _, _, _, _, _, _, _, _, h, h'⟩ := h
  exact ⟨_, _, _, _, _, _, _, _, _, _, _, _, h.grown hg (fun e => hne (by injection e)), h'.tape ht hg⟩
theorem BxD.nil {w : World} {B : Nat} (h : Blk w B [.slice none 0 0, .slice none 0 0, .slice none 0 0, .slice none 0 0] 27) : BxD w B .nil := ⟨_, _, _, _, _, _, _, _, _, _, _, _, h, isD_nil w⟩
theorem BxD.put {w : World} {B : Nat} {d d' : Dsk} {a1 a2 a3 a4 : Option Addr} {n1 c1 n2 c2 n3 c3 n4 c4 : Nat} (h : BxD w B d') (hd : IsD w (.agg #[.slice a1 n1 c1, .slice a2 n2 c2, .slice a3 n3 c3, .slice a4 n4 c4]) d) : BxD (set4 w B (.slice a1 n1 c1) (.slice a2 n2 c2) (.slice a3 n3 c3) (.slice a4 n4 c4)) B d := by
  obtain ⟨_, _, _, _, _, _, _, _, _, _, _, _, h, -⟩ := h
  exact ⟨_, _, _, _, _, _, _, _, _, _, _, _, h.set4 _ _ _ _, hd.set4 h (allSl4 _ _ _ _ _ _ _ _ _ _ _ _) rfl rfl rfl⟩
theorem BxD.set4ne {w : World} {B B' : Nat} {d d' : Dsk} {a1 a2 a3 a4 : Option Addr} {n1 c1 n2 c2 n3 c3 n4 c4 : Nat} (h : BxD w B d) (h' : BxD w B' d') (hne : B ≠ B') : BxD (Go.Proofs.Ytjpmfiicbokdcaa.set4 w B' (.slice a1 n1 c1) (.slice a2 n2 c2) (.slice a3 n3 c3) (.slice a4 n4 c4)) B d := by
  obtain ⟨_, _, _, _, _, _, _, _, _, _, _, _, h, h1⟩ := h
  obtain ⟨_, _, _, _, _, _, _, _, _, _, _, _, h', -⟩ := h'
  exact ⟨_, _, _, _, _, _, _, _, _, _, _, _, h.set4ne hne _ _ _ _, h1.set4 h' (allSl4 _ _ _ _ _ _ _ _ _ _ _ _) rfl rfl rfl⟩
theorem IsD.four {w : World} {u : Value} {d : Dsk} (h : IsD w u d) : ∃ a1 n1 c1 a2 n2 c2 a3 n3 c3 a4 n4 c4, u = .agg #[.slice a1 n1 c1, .slice a2 n2 c2, .slice a3 n3 c3, .slice a4 n4 c4] := by
  obtain ⟨a1, n1, c1, a2, n2, c2, a3, n3, c3, a4, n4, c4, h, -⟩ := h.h
  exact ⟨a1, n1, c1, a2, n2, c2, a3, n3, c3, a4, n4, c4, h⟩
def goodD (K : Nat) (d : Dsk) : Prop := validM d = true ∧ szK K d
theorem goodD.step {K : Nat} {d : Dsk} (h : goodD K d) (o : DOp) : goodD (K + 1) (applyM d o).1 := by
  refine ⟨?_, h.2.step o⟩
  have hr : applyM d o = appM d o := by unfold applyM; rw [if_pos h.1]
  rw [hr]
  by_cases h0 : (appM d o).2 = 0
  · exact valid_app h.1 o h0
  · have : (appM d o).1 = .nil := app_nil h0
    rw [this]; exact valid_nil
/-- The steps of a drawn region keep disks. -/
def ED : Nat → World → World → Prop := fun _ w w' => ∀ u d, IsD w u d → IsD w' u d
theorem ED.below {w w' : World} (hb : Below w.heap.size w w') (i : Nat) : ED i w w' := fun _ _ h => h.below hb
def PDo : Value → World → Prop := fun v _ => ∃ o : DOp, v = oV o ∧ o.2.2.2.length ≤ 5
def PDp (K : Nat) : Value → World → Prop := fun v w => ∃ u d, ∃ e : Nat, v = .tuple #[u, .int .i64 (e : Int)] ∧ IsD w u d ∧ goodD K d
def PDd (K : Nat) : Value → World → Prop := fun v w => ∃ d, IsD w v d ∧ goodD K d
def PDe : Value → World → Prop := fun v _ => ∃ e : Nat, v = .int .i64 (e : Int)
theorem stab_PDp {m : List Nat} {K : Nat} (i : Nat) : StabV m ED i (.p (PDp K)) := fun _ _ _ u w w' hE ⟨v, d, e, h1, h2, h3⟩ => ⟨v, d, e, h1, hE _ _ h2, h3⟩
theorem stab_PDd {m : List Nat} {K : Nat} (i : Nat) : StabV m ED i (.p (PDd K)) := fun _ _ _ u w w' hE ⟨d, h2, h3⟩ => ⟨d, hE _ _ h2, h3⟩
/-- The world while an operation is made and applied, and the disk is put into its box. -/
structure GB (W : World) (g : Nat) (L : Nat → Bool) (tm : Nat → Value) (w : World) : Prop where
  gr : W.grownBy w (some g)
  tp : IsTape w g
  bx : L 7 = true → ∃ gb, tm 7 = .pointer (some ⟨gb, 0, none⟩) ∧ W.heap.size ≤ gb ∧ ∃ a b c d, Blk w gb [a, b, c, d] 27 ∧ AllSl [a, b, c, d] ∧ (L 8 = true → tm 22 = .agg #[a, b, c, d])
  m8 : L 8 = true → L 5 = true ∧ L 7 = true
theorem GB.turn {W w w' : World} {g i t : Nat} {L : Nat → Bool} {tm : Nat → Value} {v : Value} (h : GB W g L tm w) (hgW : g < W.heap.size) (hi : i ≠ 5 ∧ i ≠ 7 ∧ i ≠ 8) (ht : t ≠ 7 ∧ t ≠ 22) (hg : w.grownBy w' (some g)) (htp : IsTape w' g) : GB W g (upL L i) (putT (some t) v tm) w' := by
  obtain ⟨i5, i7, i8⟩ := hi
  obtain ⟨t7, t22⟩ := ht
  have u : ∀ j, j ≠ i → upL L i j = L j := fun j hj => by unfold upL; rw [if_neg hj]
  have p : ∀ j, j ≠ t → putT (some t) v tm j = tm j := fun j hj => by unfold putT; simp [hj, Ne.symm hj]
  refine ⟨h.gr.trans hg, htp, ?_, ?_⟩
  · rw [u 7 (Ne.symm i7), u 8 (Ne.symm i8), p 7 (Ne.symm t7), p 22 (Ne.symm t22)]
    intro h7
    obtain ⟨gb, h1, h2, a, b, c, d, h3, h4⟩ := h.bx h7
    exact ⟨gb, h1, h2, a, b, c, d, h3.grown hg (fun e => by injection e; omega), h4⟩
  · rw [u 7 (Ne.symm i7), u 8 (Ne.symm i8), u 5 (Ne.symm i5)]; exact h.m8
theorem GB.stay {W w : World} {g i t : Nat} {L : Nat → Bool} {tm : Nat → Value} {v : Value} (h : GB W g L tm w) (hgW : g < W.heap.size) (hi : i ≠ 5 ∧ i ≠ 7 ∧ i ≠ 8) (ht : t ≠ 7 ∧ t ≠ 22) : GB W g (upL L i) (putT (some t) v tm) w := h.turn hgW hi ht (World.grownBy.refl _ _) h.tp
theorem GB.bel {W w w' : World} {g i t : Nat} {L : Nat → Bool} {tm : Nat → Value} {v : Value} (h : GB W g L tm w) (hgW : g < W.heap.size) (hi : i ≠ 5 ∧ i ≠ 7 ∧ i ≠ 8) (ht : t ≠ 7 ∧ t ≠ 22) (hb : Below w.heap.size w w') : GB W g (upL L i) (putT (some t) v tm) w' := h.turn hgW hi ht (World.grownBy.but (below_grow0 hb) (some g)) (h.tp.below hb)
theorem GB.c5 {W w : World} {g : Nat} {L : Nat → Bool} {tm : Nat → Value} {v : Value} (h : GB W g L tm w) (hL : L 5 = false) : GB W g (upL L 5) (putT (some 22) v tm) w := by
  have h8 : L 8 = false := by
    cases hq : L 8 with
    | false => rfl
    | true => rw [(h.m8 hq).1] at hL; cases hL
  refine ⟨h.gr, h.tp, ?_, ?_⟩
  · intro h7
    obtain ⟨gb, h1, h2, a, b, c, d, h3, h4, -⟩ := h.bx (by simpa [upL] using h7)
    exact ⟨gb, by simpa [putT] using h1, h2, a, b, c, d, h3, h4, fun e => absurd e (by simp [upL, h8])⟩
  · intro e; exact absurd e (by simp [upL, h8])
theorem GB.c7 {W w : World} {g : Nat} {L : Nat → Bool} {tm : Nat → Value} (h : GB W g L tm w) (hgW : g < W.heap.size) (hL : L 7 = false) : GB W g (upL L 7) (putT (some 7) (.pointer (some ⟨w.heap.size, 0, none⟩)) tm) (w.alloc (.cells [.slice none 0 0, .slice none 0 0, .slice none 0 0, .slice none 0 0].toArray 27)) := by
  have h8 : L 8 = false := by
    cases hq : L 8 with
    | false => rfl
    | true => rw [(h.m8 hq).2] at hL; cases hL
  have hb := bl_alloc (bl_refl w) (.cells [.slice none 0 0, .slice none 0 0, .slice none 0 0, .slice none 0 0].toArray 27)
  refine ⟨gb_below h.gr hb, h.tp.below hb, ?_, ?_⟩
  · intro _
    exact ⟨_, by simp [putT], h.gr.size, _, _, _, _, Blk.new w _ _, allSl4 _ _ _ _ _ _ _ _ _ _ _ _, fun e => absurd e (by simp [upL, h8])⟩
  · intro e; exact absurd e (by simp [upL, h8])
theorem GB.c8 {W w : World} {g gb : Nat} {L : Nat → Bool} {tm : Nat → Value} {a b c d : Option Addr} {n1 m1 n2 m2 n3 m3 n4 m4 : Nat} (h : GB W g L tm w) (hgW : g < W.heap.size) (h5 : L 5 = true) (h7 : L 7 = true) (ht : tm 22 = .agg #[.slice a n1 m1, .slice b n2 m2, .slice c n3 m3, .slice d n4 m4]) (hb : tm 7 = .pointer (some ⟨gb, 0, none⟩)) :
    GB W g (upL L 8) (putT none undef tm) (set4 w gb (.slice a n1 m1) (.slice b n2 m2) (.slice c n3 m3) (.slice d n4 m4)) := by
  obtain ⟨gb', h1, h2, x1, x2, x3, x4, h3, h4, -⟩ := h.bx h7
  have e : gb' = gb := by rw [hb] at h1; injection h1 with h1; injection h1 with h1; injection h1 with h1; exact h1.symm
  subst e
  have hlt := Nat.lt_of_lt_of_le hgW h2
  refine ⟨?_, ?_, ?_, ?_⟩
  · exact gbF_set (gbF_set (gbF_set (gbF_set h.gr h2 _ _) h2 _ _) h2 _ _) h2 _ _
  · exact tapeF_set (tapeF_set (tapeF_set (tapeF_set h.tp hlt _ _) hlt _ _) hlt _ _) hlt _ _
  · intro _
    exact ⟨gb', by simpa [putT] using hb, h2, _, _, _, _, h3.set4 _ _ _ _, allSl4 _ _ _ _ _ _ _ _ _ _ _ _, fun _ => by simpa [putT] using ht⟩
  · intro _; simp [upL, h5, h7]
set_option maxHeartbeats 8000000 in
set_option maxRecDepth 100000 in
theorem build_any (g : Nat) (most : Int) (mm : Nat) (w : World) (hmm : most = mm) (hm : mm ≤ 1000) (ht : IsTape w g) :
    Calls Try.prog 13 #[.pointer (some ⟨g, 0, none⟩), .int .i64 most] w fun e w' => ∃ u d, e = .returned u ∧ IsD w' u d ∧ goodD mm d ∧ w.grownBy w' (some g) := by
  subst hmm
  have hgl := ht.lt
  obtain ⟨W1, hW1⟩ : ∃ W1, W1 = (w.alloc (.cells [.slice none 0 0, .slice none 0 0, .slice none 0 0, .slice none 0 0].toArray 27)).alloc (.cells [.slice none 0 0, .slice none 0 0, .slice none 0 0, .slice none 0 0].toArray 27) := ⟨_, rfl⟩
  have B0 := hide (show Blk W1 w.heap.size [.slice none 0 0, .slice none 0 0, .slice none 0 0, .slice none 0 0] 27 by rw [hW1]; exact (Blk.new w _ _).alloc _)
  have B1 := hide (show Blk W1 (w.heap.size + 1) [.slice none 0 0, .slice none 0 0, .slice none 0 0, .slice none 0 0] 27 by rw [hW1]; exact Blk.newG (by simp) _ _)
  have HT1 := hide (show IsTape W1 g by rw [hW1]; exact tapeF_alloc (tapeF_alloc ht _) _)
  have HG1 := hide (show w.grownBy W1 (some g) by rw [hW1]; exact gbF_alloc (World.grownBy_alloc _ _ _) _)
  have HW1 := hide hW1.symm
  have hm1 : (1 : Int) ≤ (mm : Int) + 1 := by omega
  clear hW1 ht
  go_enter Try.func13, Try.ntmps13
  go_wp2_with fail
  rw [HW1.out]
  clear HW1
  refine (deal_any g _ W1 HT1.out hm1 (by omega)).mono ?_
  rintro e w2 ⟨n, rfl, hn0, hn1, ht2, hg2⟩
  obtain ⟨n, rfl⟩ := Int.eq_ofNat_of_zero_le hn0
  have hnm : n ≤ mm := by omega
  have hne0 : (some g : Option Nat) ≠ some w.heap.size := fun e => by injection e; omega
  have hne1 : (some g : Option Nat) ≠ some (w.heap.size + 1) := fun e => by injection e; omega
  have C0 := hide (B0.out.grown hg2 hne0)
  have C1 := hide (B1.out.grown hg2 hne1)
  have HT2 := hide ht2
  have HG2 := hide (HG1.out.trans hg2)
  clear B0 B1 HT1 HG1 ht2 hg2 hn0 hn1 hm1
  have hmm9 : mm ≤ 1000 := hm
  go_wp2_with fail
  go_loopw [6] (fun kv wr => ∃ (k : Nat) (d : Dsk), kv = .int .i64 (k : Int) ∧ k ≤ mm ∧ Hid (Blk wr w.heap.size [.slice none 0 0, .slice none 0 0, .slice none 0 0, .slice none 0 0] 27) ∧ Hid (BxD wr (w.heap.size + 1) d) ∧ Hid (goodD (mm - k) d) ∧ Hid (IsTape wr g) ∧ Hid (w.grownBy wr (some g))) (fun kv _ => (intOf kv).toNat)
  case atStart => exact ⟨n, .nil, rfl, hnm, C0, hide (BxD.nil C1.out), hide ⟨valid_nil, Nat.zero_le _, Nat.zero_le _, Nat.zero_le _, Nat.zero_le _⟩, HT2, HG2⟩
  case round =>
    clear C0 C1 HT2 HG2
    obtain ⟨k, d, rfl, hk, C0, C1, HGD, HTP, HG⟩ := hrel
    obtain ⟨a1, n1, c1, a2, n2, c2, a3, n3, c3, a4, n4, c4, hb1, hd1⟩ := C1.out
    have D1 := hide hb1
    have HD1 := hide hd1
    have d0 : wr.cell? ⟨w.heap.size + 1, 0, none⟩ = some _ := D1.out.cell rfl
    have d1 : wr.cell? ⟨w.heap.size + 1, 1, none⟩ = some _ := D1.out.cell rfl
    have d2 : wr.cell? ⟨w.heap.size + 1, 2, none⟩ = some _ := D1.out.cell rfl
    have d3 : wr.cell? ⟨w.heap.size + 1, 3, none⟩ = some _ := D1.out.cell rfl
    have l1 := D1.out.lt
    clear hb1 hd1
    rcases k with _ | k
    · have y0 : wr.cell? ⟨w.heap.size, 0, none⟩ = some _ := C0.out.cell rfl
      have y1 : wr.cell? ⟨w.heap.size, 1, none⟩ = some _ := C0.out.cell rfl
      have y2 : wr.cell? ⟨w.heap.size, 2, none⟩ = some _ := C0.out.cell rfl
      have y3 : wr.cell? ⟨w.heap.size, 3, none⟩ = some _ := C0.out.cell rfl
      have l0 := C0.out.lt
      have f0 := C0.out.fr
      go_wp2
      refine bodyPost_ret (results_cell_row Try.results13 _ _ w.heap.size 27 _ (0, 0) _ rfl (C0.out.set4 _ _ _ _) Try.underlying27 rfl (by kernel_rfl)) rfl ?_
      exact ⟨_, d, rfl, HD1.out.set4 C0.out (allSl4 _ _ _ _ _ _ _ _ _ _ _ _) rfl rfl rfl, HGD.out, gbF_set (gbF_set (gbF_set (gbF_set HG.out (Nat.le_refl _) _ _) (Nat.le_refl _) _ _) (Nat.le_refl _) _ _) (Nat.le_refl _) _ _⟩
    · have hk0 : (0 : Int) < ((k + 1 : Nat) : Int) := by omega
      have hks : ((k + 1 : Nat) : Int) - 1 = (k : Int) := by omega
      have hgr : g < wr.heap.size := HTP.out.lt
      go_wp2_with fail
      refine wp_region_V 9 (GB wr g) ED (by kernel_rfl) (by kernel_rfl) (by kernel_rfl) ⟨show wr.grownBy wr.drew (some g) from ⟨rfl, rfl, rfl, Nat.le_refl _, fun _ _ _ => rfl⟩, HTP.out.below (bl_drew (bl_refl wr)), fun h => absurd h (by decide), fun h => absurd h (by decide)⟩ (fun Q HQ => ?_)
      simp only [List.take_succ_cons, List.take_zero, List.map_cons, List.map_nil]
      apply wpV_c (v := .agg #[.slice a1 n1 c1, .slice a2 n2 c2, .slice a3 n3 c3, .slice a4 n4 c4]) rfl
      focus
        intro L tm ev wx hG hL hM hT hx
        (try simp [Op.operands, Call.operands, opndS, Slot.holds] at hx)
        have E1 := D1.out.grown hG.gr hne1
        have z0 : wx.cell? ⟨w.heap.size + 1, 0, none⟩ = some _ := E1.cell rfl
        have z1 : wx.cell? ⟨w.heap.size + 1, 1, none⟩ = some _ := E1.cell rfl
        have z2 : wx.cell? ⟨w.heap.size + 1, 2, none⟩ = some _ := E1.cell rfl
        have z3 : wx.cell? ⟨w.heap.size + 1, 3, none⟩ = some _ := E1.cell rfl
        have hS := hG.stay (v := .agg #[.slice a1 n1 c1, .slice a2 n2 c2, .slice a3 n3 c3, .slice a4 n4 c4]) (i := 0) (t := 18) hgr (by decide) (by decide)
        clear E1 hT hG
        go_simp
        exact ⟨hS, ED.below (bl_refl wx) _, rfl⟩
      dsimp only [setS, List.set]
      apply wpV_c rfl
      focus
        intro L tm ev wx hG hL hM hT hx
        (try simp [Op.operands, Call.operands, opndS, Slot.holds] at hx)
        clear hT
        go_simp
        exact ⟨hG.stay hgr (by decide) (by decide), ED.below (bl_refl wx) _, rfl⟩
      dsimp only [setS, List.set]
      refine wpV_p (R := PDo) rfl (fun _ _ _ _ _ _ _ h => h) ?_ ?_
      focus
        intro L tm ev wx hG hL hM hT hx
        (try simp [Op.operands, Call.operands, opndS, Slot.holds] at hx)
        clear hT
        go_simp
        refine (op_any g wx hG.tp).mono ?_
        rintro e w' ⟨o, rfl, ho, htp, hgr'⟩
        exact ⟨_, rfl, hG.turn hgr (by decide) (by decide) hgr' htp, fun u d' hd' => hd'.tape hG.tp hgr', o, rfl, ho⟩
      dsimp only [setS, List.set]
      refine wpV_p (R := PDp (mm - k)) rfl (stab_PDp _) ?_ ?_
      focus
        intro L tm ev wx hG hL hM hT hx
        (try simp [Op.operands, Call.operands, opndS, Slot.holds] at hx)
        obtain ⟨hx0, hx1, o, hx2, ho⟩ := hx
        clear hT
        have hgs : goodD (mm - k) (applyM d o).1 := by
          have := HGD.out.step o
          rwa [show mm - (k + 1) + 1 = mm - k by omega] at this
        have hAP := rapply_any _ d o wx (HD1.out.tape HTP.out hG.gr) (HGD.out.2.szD (by omega)) (by omega)
        go_simp
        refine hAP.mono ?_
        rintro e w' ⟨u, rfl, hu, hb⟩
        exact ⟨_, rfl, hG.bel hgr (by decide) (by decide) hb, ED.below hb _, u, _, _, rfl, hu, hgs⟩
      dsimp only [setS, List.set]
      refine wpV_p (R := PDp (mm - k)) rfl (stab_PDp _) ?_ ?_
      focus
        intro L tm ev wx hG hL hM hT hx
        (try simp [Op.operands, Call.operands, opndS, Slot.holds] at hx)
        have hS := fun v => hG.stay (v := v) (i := 4) (t := 17) hgr (by decide) (by decide)
        obtain ⟨u, d', e, hx1, hx2, hx3⟩ := hx
        clear hT hG
        go_simp
        exact ⟨hS _, ED.below (bl_refl wx) _, u, d', e, rfl, hx2, hx3⟩
      dsimp only [setS, List.set]
      refine wpV_p (R := PDd (mm - k)) rfl (stab_PDd _) ?_ ?_
      focus
        intro L tm ev wx hG hL hM hT hx
        (try simp [Op.operands, Call.operands, opndS, Slot.holds] at hx)
        have hS := fun v => hG.c5 (v := v) hL
        obtain ⟨u, d', e, hx1, hx2, hx3⟩ := hx
        clear hT hG
        go_simp
        exact ⟨hS _, ED.below (bl_refl wx) _, d', hx2, hx3⟩
      dsimp only [setS, List.set]
      refine wpV_p (R := PDe) rfl (fun _ _ _ _ _ _ _ h => h) ?_ ?_
      focus
        intro L tm ev wx hG hL hM hT hx
        (try simp [Op.operands, Call.operands, opndS, Slot.holds] at hx)
        have hS := fun v => hG.stay (v := v) (i := 6) (t := 23) hgr (by decide) (by decide)
        obtain ⟨u, d', e, hx1, hx2, hx3⟩ := hx
        clear hT hG
        go_simp
        exact ⟨hS _, ED.below (bl_refl wx) _, e, rfl⟩
      dsimp only [setS, List.set]
      refine wpV_p (R := fun _ _ => True) rfl (fun _ _ _ _ _ _ _ h => h) ?_ ?_
      focus
        intro L tm ev wx hG hL hM hT hx
        (try simp [Op.operands, Call.operands, opndS, Slot.holds] at hx)
        have hS := hG.c7 hgr hL
        clear hT hG
        go_simp
        exact ⟨hS, ED.below (bl_alloc (bl_refl wx) _) _, trivial⟩
      dsimp only [setS, List.set]
      apply wpV_c (v := undef) rfl
      focus
        intro L tm ev wx hG hL hM hT hx
        (try simp [Op.operands, Call.operands, opndS, Slot.holds] at hx)
        have h5 := hM 5 (by decide) (by kernel_rfl)
        have h7 := hM 7 (by decide) (by kernel_rfl)
        obtain ⟨gb, e7, hgb, x1, x2, x3, x4, hbx, hsl, -⟩ := hG.bx h7
        have hv7 := hT 7
        have hv22 := hT 22
        obtain ⟨d', hx2, hx3⟩ := hx
        obtain ⟨b1, m1, q1, b2, m2, q2, b3, m3, q3, b4, m4, q4, hu⟩ := hx2.four
        rw [e7] at hv7
        have e22 : tm 22 = .agg #[.slice b1 m1 q1, .slice b2 m2 q2, .slice b3 m3 q3, .slice b4 m4 q4] := by rw [← hv22]; exact hu
        have hS := hG.c8 hgr h5 h7 e22 e7
        have z0 : wx.cell? ⟨gb, 0, none⟩ = some _ := hbx.cell rfl
        have z1 : wx.cell? ⟨gb, 1, none⟩ = some _ := hbx.cell rfl
        have z2 : wx.cell? ⟨gb, 2, none⟩ = some _ := hbx.cell rfl
        have z3 : wx.cell? ⟨gb, 3, none⟩ = some _ := hbx.cell rfl
        have zl := hbx.lt
        have zf := hbx.fr
        have hE : ED 8 wx (set4 wx gb (.slice b1 m1 q1) (.slice b2 m2 q2) (.slice b3 m3 q3) (.slice b4 m4 q4)) := fun _ _ h => h.set4 hbx hsl rfl rfl rfl
        unfold set4 at hS hE
        have HS8 := hide hS
        have HE8 := hide hE
        clear hT hG e7 e22 hv22 hS hE hx2 hx3 hM hL
        go_simp
        exact ⟨HS8.out, HE8.out, rfl⟩
      dsimp only [setS, List.set]
      refine wpV_nil (HQ _ fun w5 => ?_)
      simp only [closeS, List.drop_succ_cons, List.drop_zero]
      rintro v7 - v17 - v20 - v21 - v22 ⟨d', hd', hgd'⟩ v23 ⟨e, rfl⟩ hG
      obtain ⟨gb, h7, hgb, x1, x2, x3, x4, hbx, hsl, h22⟩ := hG.bx rfl
      have h7' : v7 = .pointer (some ⟨gb, 0, none⟩) := h7
      have h22' : v22 = .agg #[x1, x2, x3, x4] := h22 rfl
      obtain ⟨b1, m1, q1, b2, m2, q2, b3, m3, q3, b4, m4, q4, rfl⟩ := hd'.four
      simp at h22'
      obtain ⟨rfl, rfl, rfl, rfl⟩ := h22'
      subst h7'
      have E0 := hide (C0.out.grown hG.gr hne0)
      have E1 := hide (D1.out.grown hG.gr hne1)
      have EB := hide hbx
      have ED' := hide hd'
      have EI := hide (HD1.out.tape HTP.out hG.gr)
      have EG := hide hgd'
      have ET := hide hG.tp
      have EGR := hide (HG.out.trans hG.gr)
      have hR1 : w.heap.size + 1 < gb := Nat.lt_of_lt_of_le l1 hgb
      clear hG h7 h22 hbx hsl hd' hgd' d0 d1 d2 d3 l1 D1 HD1 C0 C1 HTP HG HQ hgb
      have d0 : w5.cell? ⟨w.heap.size + 1, 0, none⟩ = some _ := E1.out.cell rfl
      have d1 : w5.cell? ⟨w.heap.size + 1, 1, none⟩ = some _ := E1.out.cell rfl
      have d2 : w5.cell? ⟨w.heap.size + 1, 2, none⟩ = some _ := E1.out.cell rfl
      have d3 : w5.cell? ⟨w.heap.size + 1, 3, none⟩ = some _ := E1.out.cell rfl
      have dl := E1.out.lt
      have df := E1.out.fr
      have z0 : w5.cell? ⟨gb, 0, none⟩ = some _ := EB.out.cell rfl
      have z1 : w5.cell? ⟨gb, 1, none⟩ = some _ := EB.out.cell rfl
      have z2 : w5.cell? ⟨gb, 2, none⟩ = some _ := EB.out.cell rfl
      have z3 : w5.cell? ⟨gb, 3, none⟩ = some _ := EB.out.cell rfl
      have zl := EB.out.lt
      by_cases he : e = 0
      · subst he
        go_wp2
        go_roundw
        case rel =>
          refine ⟨k, d', by go_num, by omega, hide (E0.out.set4ne (by omega) _ _ _ _), hide (BxD.put ⟨_, _, _, _, _, _, _, _, _, _, _, _, E1.out, EI.out⟩ ED'.out), EG, hide ?_, hide ?_⟩
          · exact tapeF_set (tapeF_set (tapeF_set (tapeF_set ET.out (by omega) _ _) (by omega) _ _) (by omega) _ _) (by omega) _ _
          · exact gbF_set (gbF_set (gbF_set (gbF_set EGR.out (by omega) _ _) (by omega) _ _) (by omega) _ _) (by omega) _ _
        case measure => simp [intOf]
      · have he' : ((e : Int) == 0) = false := by rw [beq_eq_false_iff_ne]; omega
        have he2 : ¬ (e : Int) = 0 := by omega
        go_wp2
        go_roundw
        case rel =>
          exact ⟨k, d, by go_num, by omega, E0, hide ⟨_, _, _, _, _, _, _, _, _, _, _, _, E1.out, EI.out⟩, hide ⟨HGD.out.1, by have := HGD.out.2; exact ⟨by have := this.1; omega, by have := this.2.1; omega, by have := this.2.2.1; omega, by have := this.2.2.2; omega⟩⟩, ET, EGR⟩
        case measure => simp [intOf]
end Go.Proofs.Ytjpmfiicbokdcaa
