/- The walk of the program's clone; disks of the call's own. -/
import Derived.Test.YtjpmfiicbokdcaaDzW
import Derived.Test.YtjpmfiicbokdcaaRegV
namespace Go.Proofs.Ytjpmfiicbokdcaa
open Go.RowKit
set_option linter.unusedVariables false
set_option linter.unusedSimpArgs false
theorem own_ty_apart {w : World} {b b' s s' n n' : Nat} {T T' : TypeId} {v v' : Value} {xs xs' : List Value} (h : w.ownsRow b T s v n xs) (h' : w.ownsRow b' T' s' v' n' xs') (hT : T ≠ T') : Apart v v' := by
  intro q hq hq'
  rcases h.2 with ⟨rfl, _⟩ | ⟨g, cap, cur, rfl, -, hg, -⟩
  · cases hq
  · rcases h'.2 with ⟨rfl, _⟩ | ⟨g', cap', cur', rfl, -, hg', -⟩
    · cases hq'
    · simp [Value.ownBlock] at hq hq'
      subst hq hq'
      rw [hg] at hg'
      injection hg' with hg'
      injection hg' with _ ht _
      exact hT ht
/-- A disk whose slices are all the call's own. -/
structure OwD (w : World) (B : Nat) (A1 : Option Addr) (n1 p1 : Nat) (A2 : Option Addr) (n2 p2 : Nat) (A3 : Option Addr) (n3 p3 : Nat) (A4 : Option Addr) (n4 p4 : Nat) (d : Dsk) : Prop where
  o1 : w.ownsRow B 33 2 (.slice A1 n1 p1) n1 (d.inodes.flatMap encE)
  o2 : w.ownsRow B 35 2 (.slice A2 n2 p2) n2 (d.dir.flatMap encE)
  o3 : w.ownsRow B 35 2 (.slice A3 n3 p3) n3 (d.dur.flatMap encE)
  o4 : w.ownsRow B 48 4 (.slice A4 n4 p4) n4 (d.ops.flatMap encO)
  e1 : n1 = d.inodes.length
  e2 : n2 = d.dir.length
  e3 : n3 = d.dur.length
  e4 : n4 = d.ops.length
  ap : Apart (.slice A2 n2 p2) (.slice A3 n3 p3)
theorem OwD.isD {w : World} {B n1 p1 n2 p2 n3 p3 n4 p4 : Nat} {A1 A2 A3 A4 : Option Addr} {d : Dsk} (h : OwD w B A1 n1 p1 A2 n2 p2 A3 n3 p3 A4 n4 p4 d) : IsD w (.agg #[.slice A1 n1 p1, .slice A2 n2 p2, .slice A3 n3 p3, .slice A4 n4 p4]) d := by
  obtain ⟨r2, b2⟩ := own_RE2 h.o2 h.e2
  obtain ⟨r3, b3⟩ := own_RE2 h.o3 h.e3
  exact isD_own h.o1 h.e1 r2 r3 h.o4 h.e4 b2 b3
theorem OwD.below {w w' : World} {B n1 p1 n2 p2 n3 p3 n4 p4 : Nat} {A1 A2 A3 A4 : Option Addr} {d : Dsk} (h : OwD w B A1 n1 p1 A2 n2 p2 A3 n3 p3 A4 n4 p4 d) (hb : Below w.heap.size w w') : OwD w' B A1 n1 p1 A2 n2 p2 A3 n3 p3 A4 n4 p4 d :=
  ⟨ownG_below h.o1 hb, ownG_below h.o2 hb, ownG_below h.o3 hb, ownG_below h.o4 hb, h.e1, h.e2, h.e3, h.e4, h.ap⟩
theorem OwD.base {w : World} {B B' n1 p1 n2 p2 n3 p3 n4 p4 : Nat} {A1 A2 A3 A4 : Option Addr} {d : Dsk} (h : OwD w B A1 n1 p1 A2 n2 p2 A3 n3 p3 A4 n4 p4 d) (hb : B' ≤ B) : OwD w B' A1 n1 p1 A2 n2 p2 A3 n3 p3 A4 n4 p4 d :=
  ⟨own_baseG h.o1 hb, own_baseG h.o2 hb, own_baseG h.o3 hb, own_baseG h.o4 hb, h.e1, h.e2, h.e3, h.e4, h.ap⟩
/-- A store into a block of slices leaves it. -/
theorem own_neSl {w : World} {b s n g : Nat} {T : TypeId} {v : Value} {xs cs : List Value} {t : TypeId} (h : w.ownsRow b T s v n xs) (hb : Blk w g cs t) (hT : T ≠ t) : v.ownBlock ≠ some g := by
  intro hq
  rcases h.2 with ⟨rfl, _⟩ | ⟨g', cap, cur, rfl, -, hg, -⟩
  · cases hq
  · simp [Value.ownBlock] at hq
    subst hq
    unfold Blk at hb
    rw [hg] at hb
    injection hb with hb
    injection hb with _ ht _
    exact hT ht
theorem OwD.set4 {w : World} {B n1 p1 n2 p2 n3 p3 n4 p4 g : Nat} {A1 A2 A3 A4 : Option Addr} {d : Dsk} {cs : List Value} (h : OwD w B A1 n1 p1 A2 n2 p2 A3 n3 p3 A4 n4 p4 d) (hb : Blk w g cs 27) (q0 q1 q2 q3 : Value) : OwD (Go.Proofs.Ytjpmfiicbokdcaa.set4 w g q0 q1 q2 q3) B A1 n1 p1 A2 n2 p2 A3 n3 p3 A4 n4 p4 d :=
  ⟨ownG_set4 h.o1 (own_neSl h.o1 hb (by decide)) _ _ _ _, ownG_set4 h.o2 (own_neSl h.o2 hb (by decide)) _ _ _ _, ownG_set4 h.o3 (own_neSl h.o3 hb (by decide)) _ _ _ _, ownG_set4 h.o4 (own_neSl h.o4 hb (by decide)) _ _ _ _, h.e1, h.e2, h.e3, h.e4, h.ap⟩
theorem OwD.setC {w : World} {B n1 p1 n2 p2 n3 p3 n4 p4 g : Nat} {A1 A2 A3 A4 : Option Addr} {d : Dsk} {cs : List Value} (h : OwD w B A1 n1 p1 A2 n2 p2 A3 n3 p3 A4 n4 p4 d) (hb : Blk w g cs 27) (k : Nat) (q : Value) : OwD (w.setCell ⟨g, k, none⟩ q) B A1 n1 p1 A2 n2 p2 A3 n3 p3 A4 n4 p4 d :=
  ⟨ownG_setne h.o1 (own_neSl h.o1 hb (by decide)) _ _, ownG_setne h.o2 (own_neSl h.o2 hb (by decide)) _ _, ownG_setne h.o3 (own_neSl h.o3 hb (by decide)) _ _, ownG_setne h.o4 (own_neSl h.o4 hb (by decide)) _ _, h.e1, h.e2, h.e3, h.e4, h.ap⟩
theorem OwD.nil (w : World) (B : Nat) : OwD w B none 0 0 none 0 0 none 0 0 none 0 0 .nil :=
  ⟨⟨rfl, .inl ⟨rfl, rfl⟩⟩, ⟨rfl, .inl ⟨rfl, rfl⟩⟩, ⟨rfl, .inl ⟨rfl, rfl⟩⟩, ⟨rfl, .inl ⟨rfl, rfl⟩⟩, rfl, rfl, rfl, rfl, fun q h => by cases h⟩
/-- While the four slices are cloned, in whatever order. -/
structure GC (W : World) (d : Dsk) (n1 n2 n3 n4 : Nat) (L : Nat → Bool) (tm : Nat → Value) (w : World) : Prop where
  b : Below W.heap.size W w
  r1 : L 2 = true → w.ownsRow W.heap.size 33 2 (tm 5) n1 (d.inodes.flatMap encE)
  r2 : L 5 = true → w.ownsRow W.heap.size 35 2 (tm 8) n2 (d.dir.flatMap encE)
  r3 : L 8 = true → w.ownsRow W.heap.size 35 2 (tm 11) n3 (d.dur.flatMap encE)
  r4 : L 11 = true → w.ownsRow W.heap.size 48 4 (tm 14) n4 (d.ops.flatMap encO)
  ap : L 5 = true → L 8 = true → Apart (tm 8) (tm 11)
theorem GC.move {W : World} {d : Dsk} {n1 n2 n3 n4 : Nat} {L : Nat → Bool} {tm : Nat → Value} {w : World} (h : GC W d n1 n2 n3 n4 L tm w) {i t : Nat} (hi : i ≠ 2 ∧ i ≠ 5 ∧ i ≠ 8 ∧ i ≠ 11) (ht : t ≠ 5 ∧ t ≠ 8 ∧ t ≠ 11 ∧ t ≠ 14) (v : Value) : GC W d n1 n2 n3 n4 (upL L i) (putT (some t) v tm) w := by
  obtain ⟨i1, i2, i3, i4⟩ := hi
  obtain ⟨t1, t2, t3, t4⟩ := ht
  have u : ∀ j, j ≠ i → upL L i j = L j := fun j hj => by unfold upL; rw [if_neg hj]
  have p : ∀ j, j ≠ t → putT (some t) v tm j = tm j := fun j hj => by unfold putT; simp [hj, Ne.symm hj]
  constructor
  · exact h.b
  · rw [u 2 (Ne.symm i1), p 5 (Ne.symm t1)]; exact h.r1
  · rw [u 5 (Ne.symm i2), p 8 (Ne.symm t2)]; exact h.r2
  · rw [u 8 (Ne.symm i3), p 11 (Ne.symm t3)]; exact h.r3
  · rw [u 11 (Ne.symm i4), p 14 (Ne.symm t4)]; exact h.r4
  · rw [u 5 (Ne.symm i2), u 8 (Ne.symm i3), p 8 (Ne.symm t2), p 11 (Ne.symm t3)]; exact h.ap
theorem apart_new {w w' : World} {b n s n' s' : Nat} {T T' : TypeId} {v v' : Value} {xs xs' : List Value} (h : w.ownsRow b T s v n xs) (h' : w'.ownsRow w.heap.size T' s' v' n' xs') : Apart v v' := by
  intro q hq hq'
  have := (ownG_lt h hq).2
  have := (ownG_lt h' hq').1
  omega
theorem Apart.symm {v v' : Value} (h : Apart v v') : Apart v' v := fun q hq hq' => h q hq' hq
theorem GC.c2 {W : World} {d : Dsk} {n1 n2 n3 n4 : Nat} {L : Nat → Bool} {tm : Nat → Value} {w w' : World} (h : GC W d n1 n2 n3 n4 L tm w) {v : Value} (ho : w'.ownsRow w.heap.size 33 2 v n1 (d.inodes.flatMap encE)) (hb : Below w.heap.size w w') : GC W d n1 n2 n3 n4 (upL L 2) (putT (some 5) v tm) w' := by
  have u : ∀ j, j ≠ 2 → upL L 2 j = L j := fun j hj => by unfold upL; rw [if_neg hj]
  have u' : upL L 2 2 = true := by unfold upL; rw [if_pos rfl]
  have p : ∀ j, j ≠ 5 → putT (some 5) v tm j = tm j := fun j hj => by unfold putT; simp [hj, Ne.symm hj]
  have p' : putT (some 5) v tm 5 = v := by unfold putT; simp
  have ho' := own_baseG ho h.b.size
  constructor
  · exact h.b.trans (hb.mono h.b.size)
  · rw [p']; exact fun _ => ho'
  · rw [u 5 (by decide), p 8 (by decide)]; exact fun hl => ownG_below (h.r2 hl) hb
  · rw [u 8 (by decide), p 11 (by decide)]; exact fun hl => ownG_below (h.r3 hl) hb
  · rw [u 11 (by decide), p 14 (by decide)]; exact fun hl => ownG_below (h.r4 hl) hb
  · rw [u 5 (by decide), u 8 (by decide), p 8 (by decide), p 11 (by decide)]; exact h.ap
theorem GC.c5 {W : World} {d : Dsk} {n1 n2 n3 n4 : Nat} {L : Nat → Bool} {tm : Nat → Value} {w w' : World} (h : GC W d n1 n2 n3 n4 L tm w) {v : Value} (ho : w'.ownsRow w.heap.size 35 2 v n2 (d.dir.flatMap encE)) (hb : Below w.heap.size w w') : GC W d n1 n2 n3 n4 (upL L 5) (putT (some 8) v tm) w' := by
  have u : ∀ j, j ≠ 5 → upL L 5 j = L j := fun j hj => by unfold upL; rw [if_neg hj]
  have u' : upL L 5 5 = true := by unfold upL; rw [if_pos rfl]
  have p : ∀ j, j ≠ 8 → putT (some 8) v tm j = tm j := fun j hj => by unfold putT; simp [hj, Ne.symm hj]
  have p' : putT (some 8) v tm 8 = v := by unfold putT; simp
  have ho' := own_baseG ho h.b.size
  constructor
  · exact h.b.trans (hb.mono h.b.size)
  · rw [u 2 (by decide), p 5 (by decide)]; exact fun hl => ownG_below (h.r1 hl) hb
  · rw [p']; exact fun _ => ho'
  · rw [u 8 (by decide), p 11 (by decide)]; exact fun hl => ownG_below (h.r3 hl) hb
  · rw [u 11 (by decide), p 14 (by decide)]; exact fun hl => ownG_below (h.r4 hl) hb
  · rw [u 8 (by decide), p' , p 11 (by decide)]; exact fun _ h8 => (apart_new (h.r3 h8) ho).symm
theorem GC.c8 {W : World} {d : Dsk} {n1 n2 n3 n4 : Nat} {L : Nat → Bool} {tm : Nat → Value} {w w' : World} (h : GC W d n1 n2 n3 n4 L tm w) {v : Value} (ho : w'.ownsRow w.heap.size 35 2 v n3 (d.dur.flatMap encE)) (hb : Below w.heap.size w w') : GC W d n1 n2 n3 n4 (upL L 8) (putT (some 11) v tm) w' := by
  have u : ∀ j, j ≠ 8 → upL L 8 j = L j := fun j hj => by unfold upL; rw [if_neg hj]
  have u' : upL L 8 8 = true := by unfold upL; rw [if_pos rfl]
  have p : ∀ j, j ≠ 11 → putT (some 11) v tm j = tm j := fun j hj => by unfold putT; simp [hj, Ne.symm hj]
  have p' : putT (some 11) v tm 11 = v := by unfold putT; simp
  have ho' := own_baseG ho h.b.size
  constructor
  · exact h.b.trans (hb.mono h.b.size)
  · rw [u 2 (by decide), p 5 (by decide)]; exact fun hl => ownG_below (h.r1 hl) hb
  · rw [u 5 (by decide), p 8 (by decide)]; exact fun hl => ownG_below (h.r2 hl) hb
  · rw [p']; exact fun _ => ho'
  · rw [u 11 (by decide), p 14 (by decide)]; exact fun hl => ownG_below (h.r4 hl) hb
  · rw [u 5 (by decide), p 8 (by decide), p']; exact fun h5 _ => apart_new (h.r2 h5) ho
theorem GC.c11 {W : World} {d : Dsk} {n1 n2 n3 n4 : Nat} {L : Nat → Bool} {tm : Nat → Value} {w w' : World} (h : GC W d n1 n2 n3 n4 L tm w) {v : Value} (ho : w'.ownsRow w.heap.size 48 4 v n4 (d.ops.flatMap encO)) (hb : Below w.heap.size w w') : GC W d n1 n2 n3 n4 (upL L 11) (putT (some 14) v tm) w' := by
  have u : ∀ j, j ≠ 11 → upL L 11 j = L j := fun j hj => by unfold upL; rw [if_neg hj]
  have u' : upL L 11 11 = true := by unfold upL; rw [if_pos rfl]
  have p : ∀ j, j ≠ 14 → putT (some 14) v tm j = tm j := fun j hj => by unfold putT; simp [hj, Ne.symm hj]
  have p' : putT (some 14) v tm 14 = v := by unfold putT; simp
  have ho' := own_baseG ho h.b.size
  constructor
  · exact h.b.trans (hb.mono h.b.size)
  · rw [u 2 (by decide), p 5 (by decide)]; exact fun hl => ownG_below (h.r1 hl) hb
  · rw [u 5 (by decide), p 8 (by decide)]; exact fun hl => ownG_below (h.r2 hl) hb
  · rw [u 8 (by decide), p 11 (by decide)]; exact fun hl => ownG_below (h.r3 hl) hb
  · rw [p']; exact fun _ => ho'
  · rw [u 5 (by decide), u 8 (by decide), p 8 (by decide), p 11 (by decide)]; exact h.ap
/-- A clone. -/
def ClnP (w : World) (d : Dsk) (e : Ending) (w' : World) : Prop := ∃ A1 n1 p1 A2 n2 p2 A3 n3 p3 A4 n4 p4, e = .returned (.agg #[.slice A1 n1 p1, .slice A2 n2 p2, .slice A3 n3 p3, .slice A4 n4 p4]) ∧ OwD w' w.heap.size A1 n1 p1 A2 n2 p2 A3 n3 p3 A4 n4 p4 d ∧ Below w.heap.size w w'
set_option maxHeartbeats 16000000 in
set_option maxRecDepth 100000 in
theorem clone_any (v : Value) (d : Dsk) (w : World) (h : IsD w v d) (hs : szD d) :
    Calls Try.prog 49 #[v] w (ClnP w d) := by
  obtain ⟨a1, n1, c1, a2, n2, c2, a3, n3, c3, a4, n4, c4, rfl, h1, h2, h3, h4, -⟩ := h.h
  have H1 := hide h1
  have H2 := hide h2
  have H3 := hide h3
  have H4 := hide h4
  have hn1 : n1 ≤ 100000 := by rw [h1.1]; exact hs.1
  have hn2 : n2 ≤ 100000 := by rw [h2.1]; exact hs.2.1
  have hn3 : n3 ≤ 100000 := by rw [h3.1]; exact hs.2.2.1
  have hn4 : n4 ≤ 100000 := by rw [h4.1]; exact hs.2.2.2
  clear h h1 h2 h3 h4 hs
  obtain ⟨W2, hW2⟩ : ∃ W2, W2 = (w.alloc (.cells [.slice a1 n1 c1, .slice a2 n2 c2, .slice a3 n3 c3, .slice a4 n4 c4].toArray 27)).alloc (.cells [.slice none 0 0, .slice none 0 0, .slice none 0 0, .slice none 0 0].toArray 27) := ⟨_, rfl⟩
  have B0 := hide (show Blk W2 w.heap.size [.slice a1 n1 c1, .slice a2 n2 c2, .slice a3 n3 c3, .slice a4 n4 c4] 27 by rw [hW2]; exact (Blk.new w _ _).alloc _)
  have B1 := hide (show Blk W2 (w.heap.size + 1) [.slice none 0 0, .slice none 0 0, .slice none 0 0, .slice none 0 0] 27 by rw [hW2]; exact Blk.newG (by simp) _ _)
  have HB2 := hide (show Below w.heap.size w W2 by rw [hW2]; exact bl_alloc (bl_alloc (bl_refl w) _) _)
  have HW2 := hide hW2
  clear hW2
  go_enter Try.func49, Try.ntmps49
  go_wp2_with fail
  rw [← HW2.out]
  clear HW2
  have HC := hide (fun (wx : World) (hb : Below W2.heap.size W2 wx) => show wx.cell? ⟨w.heap.size, 0, none⟩ = some (.slice a1 n1 c1) ∧ wx.cell? ⟨w.heap.size, 1, none⟩ = some (.slice a2 n2 c2) ∧ wx.cell? ⟨w.heap.size, 2, none⟩ = some (.slice a3 n3 c3) ∧ wx.cell? ⟨w.heap.size, 3, none⟩ = some (.slice a4 n4 c4) from ⟨(B0.out.below hb).cell rfl, (B0.out.below hb).cell rfl, (B0.out.below hb).cell rfl, (B0.out.below hb).cell rfl⟩)
  refine wp_region_V 12 (GC W2 d n1 n2 n3 n4) (fun _ _ _ => True) (by kernel_rfl) (by kernel_rfl) (by kernel_rfl) (by constructor; exact bl_drew (bl_refl W2); all_goals (intro h; exact absurd h (by decide))) (fun Q HQ => ?_)
  simp only [List.take_succ_cons, List.take_zero, List.map_cons, List.map_nil]
  repeat
    first | apply wpV_c rfl | apply wpV_gc rfl (guard_mk rfl rfl)
    focus
      intro L tm ev wx hG hL hM hT hx
      clear hT
      (try simp [Op.operands, Call.operands, opndS, Slot.holds] at hx)
      obtain ⟨k0, k1, k2, k3⟩ := HC.out wx hG.b
      go_simp
      exact ⟨hG.move (by decide) (by decide) _, trivial, rfl⟩
      done
    dsimp only [setS, List.set]
  refine wpV_p (R := fun _ _ => True) rfl (fun _ _ _ _ _ _ _ _ => trivial) ?_ ?_
  focus
    intro L tm ev wx hG hL hM hT hx
    clear hT
    (try simp [Op.operands, Call.operands, opndS, Slot.holds] at hx)
    go_simp
    refine (cloneI_any a1 n1 c1 d.inodes wx (H1.out.below (HB2.out.trans (hG.b.mono HB2.out.size))) (by omega)).mono ?_
    rintro e w' ⟨v, rfl, ho, hb⟩
    exact ⟨v, rfl, hG.c2 ho hb, trivial, trivial⟩
  dsimp only [setS, List.set]
  repeat
    first | apply wpV_c rfl | apply wpV_gc rfl (guard_mk rfl rfl)
    focus
      intro L tm ev wx hG hL hM hT hx
      clear hT
      (try simp [Op.operands, Call.operands, opndS, Slot.holds] at hx)
      obtain ⟨k0, k1, k2, k3⟩ := HC.out wx hG.b
      go_simp
      exact ⟨hG.move (by decide) (by decide) _, trivial, rfl⟩
      done
    dsimp only [setS, List.set]
  refine wpV_p (R := fun _ _ => True) rfl (fun _ _ _ _ _ _ _ _ => trivial) ?_ ?_
  focus
    intro L tm ev wx hG hL hM hT hx
    clear hT
    (try simp [Op.operands, Call.operands, opndS, Slot.holds] at hx)
    go_simp
    refine (cloneE_any a2 n2 c2 d.dir wx (H2.out.below (HB2.out.trans (hG.b.mono HB2.out.size))) (by omega)).mono ?_
    rintro e w' ⟨v, rfl, ho, hb⟩
    exact ⟨v, rfl, hG.c5 ho hb, trivial, trivial⟩
  dsimp only [setS, List.set]
  repeat
    first | apply wpV_c rfl | apply wpV_gc rfl (guard_mk rfl rfl)
    focus
      intro L tm ev wx hG hL hM hT hx
      clear hT
      (try simp [Op.operands, Call.operands, opndS, Slot.holds] at hx)
      obtain ⟨k0, k1, k2, k3⟩ := HC.out wx hG.b
      go_simp
      exact ⟨hG.move (by decide) (by decide) _, trivial, rfl⟩
      done
    dsimp only [setS, List.set]
  refine wpV_p (R := fun _ _ => True) rfl (fun _ _ _ _ _ _ _ _ => trivial) ?_ ?_
  focus
    intro L tm ev wx hG hL hM hT hx
    clear hT
    (try simp [Op.operands, Call.operands, opndS, Slot.holds] at hx)
    go_simp
    refine (cloneE_any a3 n3 c3 d.dur wx (H3.out.below (HB2.out.trans (hG.b.mono HB2.out.size))) (by omega)).mono ?_
    rintro e w' ⟨v, rfl, ho, hb⟩
    exact ⟨v, rfl, hG.c8 ho hb, trivial, trivial⟩
  dsimp only [setS, List.set]
  repeat
    first | apply wpV_c rfl | apply wpV_gc rfl (guard_mk rfl rfl)
    focus
      intro L tm ev wx hG hL hM hT hx
      clear hT
      (try simp [Op.operands, Call.operands, opndS, Slot.holds] at hx)
      obtain ⟨k0, k1, k2, k3⟩ := HC.out wx hG.b
      go_simp
      exact ⟨hG.move (by decide) (by decide) _, trivial, rfl⟩
      done
    dsimp only [setS, List.set]
  refine wpV_p (R := fun _ _ => True) rfl (fun _ _ _ _ _ _ _ _ => trivial) ?_ ?_
  focus
    intro L tm ev wx hG hL hM hT hx
    clear hT
    (try simp [Op.operands, Call.operands, opndS, Slot.holds] at hx)
    go_simp
    refine (cloneO_any a4 n4 c4 d.ops wx (H4.out.below (HB2.out.trans (hG.b.mono HB2.out.size))) (by omega)).mono ?_
    rintro e w' ⟨v, rfl, ho, hb⟩
    exact ⟨v, rfl, hG.c11 ho hb, trivial, trivial⟩
  dsimp only [setS, List.set]
  refine wpV_nil (HQ _ fun w4 => ?_)
  simp only [closeS, List.drop_succ_cons, List.drop_zero]
  rintro v5 - v8 - v11 - v14 - hG
  have ho1 : w4.ownsRow W2.heap.size 33 2 v5 n1 _ := hG.r1 rfl
  have ho2 : w4.ownsRow W2.heap.size 35 2 v8 n2 _ := hG.r2 rfl
  have ho3 : w4.ownsRow W2.heap.size 35 2 v11 n3 _ := hG.r3 rfl
  have ho4 : w4.ownsRow W2.heap.size 48 4 v14 n4 _ := hG.r4 rfl
  have hap : Apart v8 v11 := hG.ap rfl rfl
  have hb := hG.b
  obtain ⟨A1, p1, rfl, -, -⟩ := ownG_form ho1
  obtain ⟨A2, p2, rfl, -, -⟩ := ownG_form ho2
  obtain ⟨A3, p3, rfl, -, -⟩ := ownG_form ho3
  obtain ⟨A4, p4, rfl, -, -⟩ := ownG_form ho4
  have HOW := hide (show OwD w4 W2.heap.size A1 n1 p1 A2 n2 p2 A3 n3 p3 A4 n4 p4 d from ⟨ho1, ho2, ho3, ho4, H1.out.1, H2.out.1, H3.out.1, H4.out.1, hap⟩)
  have C1 := hide (B1.out.below hb)
  have HB4 := hide (HB2.out.trans (hb.mono HB2.out.size))
  clear hG hb ho1 ho2 ho3 ho4 hap HQ HC
  have y0 : w4.cell? ⟨w.heap.size + 1, 0, none⟩ = some _ := C1.out.cell rfl
  have y1 : w4.cell? ⟨w.heap.size + 1, 1, none⟩ = some _ := C1.out.cell rfl
  have y2 : w4.cell? ⟨w.heap.size + 1, 2, none⟩ = some _ := C1.out.cell rfl
  have y3 : w4.cell? ⟨w.heap.size + 1, 3, none⟩ = some _ := C1.out.cell rfl
  have l1 := C1.out.lt
  have f1 := C1.out.fr
  go_wp2
  refine bodyPost_ret (results_cell_row Try.results49 _ _ (w.heap.size + 1) 27 #[.slice A1 n1 p1, .slice A2 n2 p2, .slice A3 n3 p3, .slice A4 n4 p4] (0, 0) _ rfl (C1.out.set4 _ _ _ _) Try.underlying27 rfl (by kernel_rfl)) rfl ?_
  exact ⟨_, _, _, _, _, _, _, _, _, _, _, _, rfl, (HOW.out.set4 C1.out _ _ _ _).base HB2.out.size, bl_set4 HB4.out (by omega) _ _ _ _⟩
end Go.Proofs.Ytjpmfiicbokdcaa
