/- The walk of the program's apply. -/
import Derived.Test.YtjpmfiicbokdcaaEbW
namespace Go.Proofs.Ytjpmfiicbokdcaa
open Go.RowKit
set_option linter.unusedVariables false
set_option linter.unusedSimpArgs false
theorem ownBlock_map (a : Option Addr) (n c : Nat) : (Value.slice a n c).ownBlock = a.map (·.block) := by cases a <;> rfl
/-- The blocks of a disk's rows. -/
def rowsS (A1 A2 A3 A4 : Option Addr) (q : Nat) : Prop := A1.map (·.block) = some q ∨ A2.map (·.block) = some q ∨ A3.map (·.block) = some q ∨ A4.map (·.block) = some q
/-- Blocks that are not in S stay. -/
structure KpS (S : Nat → Prop) (w w' : World) : Prop where
  os : w'.os = w.os
  tape : w'.tape = w.tape
  output : w'.output = w.output
  size : w.heap.size ≤ w'.heap.size
  block : ∀ k, k < w.heap.size → ¬ S k → w'.heap[k]? = w.heap[k]?
theorem KpS.of_grown {S : Nat → Prop} {w w' : World} {row : Option Nat} (h : w.grownBy w' row) (hr : ∀ q, row = some q → S q ∨ w.heap.size ≤ q) : KpS S w w' :=
  ⟨h.os, h.tape, h.output, h.size, fun k hk hS => h.block k hk (fun e => by
    rcases hr k e.symm with h1 | h1
    · exact hS h1
    · omega)⟩
theorem KpS.of_below {S : Nat → Prop} {w w' : World} (h : Below w.heap.size w w') : KpS S w w' := .of_grown (row := none) (grown_of_below none h) (fun q e => by cases e)
theorem KpS.trans {S : Nat → Prop} {w w' w'' : World} (h : KpS S w w') (h' : KpS S w' w'') : KpS S w w'' :=
  ⟨h'.os.trans h.os, h'.tape.trans h.tape, h'.output.trans h.output, Nat.le_trans h.size h'.size, fun k hk hS => (h'.block k (Nat.lt_of_lt_of_le hk h.size) hS).trans (h.block k hk hS)⟩
theorem KpS.setC {S : Nat → Prop} {w wr : World} (h : KpS S w wr) {g : Nat} (hg : S g ∨ w.heap.size ≤ g) (k : Nat) (v : Value) : KpS S w (wr.setCell ⟨g, k, none⟩ v) :=
  ⟨h.os, h.tape, h.output, by simpa using h.size, fun q hq hS => (Go.RowKit.Below.heap_setCell wr ⟨g, k, none⟩ v q (by
    simp only []
    rintro rfl
    rcases hg with h1 | h1
    · exact hS h1
    · omega)).trans (h.block q hq hS)⟩
theorem KpS.set4 {S : Nat → Prop} {w wr : World} (h : KpS S w wr) {g : Nat} (hg : S g ∨ w.heap.size ≤ g) (q0 q1 q2 q3 : Value) : KpS S w (Go.Proofs.Ytjpmfiicbokdcaa.set4 wr g q0 q1 q2 q3) := (((h.setC hg _ _).setC hg _ _).setC hg _ _).setC hg _ _
theorem KpS.mono {S S' : Nat → Prop} {w w' : World} (h : KpS S w w') (hS : ∀ q, q < w.heap.size → S q → S' q) : KpS S' w w' := ⟨h.os, h.tape, h.output, h.size, fun k hk hn => h.block k hk (fun h1 => hn (hS k hk h1))⟩
theorem KpS.toBelow {S : Nat → Prop} {w w' : World} {B : Nat} (h : KpS S w w') (hB : B ≤ w.heap.size) (hS : ∀ q, S q → B ≤ q) : Below B w w' := ⟨h.os, h.tape, h.output, h.size, fun k hk => h.block k (Nat.lt_of_lt_of_le hk hB) (fun h1 => by have := hS k h1; omega)⟩
theorem Blk.kp {S : Nat → Prop} {w w' : World} {g : Nat} {cs : List Value} {t : TypeId} (h : Blk w g cs t) (hk : KpS S w w') (hg : ¬ S g) : Blk w' g cs t := (hk.block g h.lt hg).trans h
theorem OwD.rows_lt {w : World} {B n1 p1 n2 p2 n3 p3 n4 p4 : Nat} {A1 A2 A3 A4 : Option Addr} {d : Dsk} (h : OwD w B A1 n1 p1 A2 n2 p2 A3 n3 p3 A4 n4 p4 d) : ∀ q, rowsS A1 A2 A3 A4 q → B ≤ q ∧ q < w.heap.size := by
  intro q hq
  rcases hq with hq | hq | hq | hq
  · exact ownG_lt h.o1 (by rw [ownBlock_map]; exact hq)
  · exact ownG_lt h.o2 (by rw [ownBlock_map]; exact hq)
  · exact ownG_lt h.o3 (by rw [ownBlock_map]; exact hq)
  · exact ownG_lt h.o4 (by rw [ownBlock_map]; exact hq)
theorem OwD.setD {w : World} {B g1 n1 p1 n2 p2 n3 p3 n4 p4 j : Nat} {A2 A3 A4 : Option Addr} {d : Dsk} {e : Ent} (h : OwD w B (some ⟨g1, 0, none⟩) n1 p1 A2 n2 p2 A3 n3 p3 A4 n4 p4 d) (hx : d.inodes[j]? = some e) (s : List UInt8) : OwD (w.setCell ⟨g1, j * 2, none⟩ (.string (bstr s))) B (some ⟨g1, 0, none⟩) n1 p1 A2 n2 p2 A3 n3 p3 A4 n4 p4 ⟨d.inodes.set j (s, e.2), d.dir, d.dur, d.ops⟩ := by
  refine ⟨?_, ownG_setne h.o2 (own_ty_apart h.o1 h.o2 (by decide) g1 rfl) _ _, ownG_setne h.o3 (own_ty_apart h.o1 h.o3 (by decide) g1 rfl) _ _, ownG_setne h.o4 (own_ty_apart h.o1 h.o4 (by decide) g1 rfl) _ _, by simp [h.e1], h.e2, h.e3, h.e4, h.ap⟩
  have := ownG_set h.o1 (j * 2) (.string (bstr s))
  rw [flat_set0 _ j _ s hx] at this
  exact this
theorem OwD.setS {w : World} {B g1 n1 p1 n2 p2 n3 p3 n4 p4 j : Nat} {A2 A3 A4 : Option Addr} {d : Dsk} {e : Ent} (h : OwD w B (some ⟨g1, 0, none⟩) n1 p1 A2 n2 p2 A3 n3 p3 A4 n4 p4 d) (hx : d.inodes[j]? = some e) (x : Int) : OwD (w.setCell ⟨g1, j * 2 + 1, none⟩ (.int .i64 x)) B (some ⟨g1, 0, none⟩) n1 p1 A2 n2 p2 A3 n3 p3 A4 n4 p4 ⟨d.inodes.set j (e.1, x), d.dir, d.dur, d.ops⟩ := by
  refine ⟨?_, ownG_setne h.o2 (own_ty_apart h.o1 h.o2 (by decide) g1 rfl) _ _, ownG_setne h.o3 (own_ty_apart h.o1 h.o3 (by decide) g1 rfl) _ _, ownG_setne h.o4 (own_ty_apart h.o1 h.o4 (by decide) g1 rfl) _ _, by simp [h.e1], h.e2, h.e3, h.e4, h.ap⟩
  have := ownG_set h.o1 (j * 2 + 1) (.int .i64 x)
  rw [flat_set1 _ j _ x hx] at this
  exact this
theorem OwD.app1 {w w' : World} {B n1 p1 n2 p2 n3 p3 n4 p4 n7 p7 : Nat} {A1 A2 A3 A4 A7 : Option Addr} {d : Dsk} {l7 : List Ent} (h : OwD w B A1 n1 p1 A2 n2 p2 A3 n3 p3 A4 n4 p4 d) (hg : w.grownBy w' (Value.slice A1 n1 p1).ownBlock) (ho : w'.ownsRow B 33 2 (.slice A7 n7 p7) n7 (l7.flatMap encE)) (he : n7 = l7.length) : OwD w' B A7 n7 p7 A2 n2 p2 A3 n3 p3 A4 n4 p4 ⟨l7, d.dir, d.dur, d.ops⟩ :=
  ⟨ho, ownG_grown h.o2 hg (fun q hq e => own_ty_apart h.o2 h.o1 (by decide) q hq e), ownG_grown h.o3 hg (fun q hq e => own_ty_apart h.o3 h.o1 (by decide) q hq e), ownG_grown h.o4 hg (fun q hq e => own_ty_apart h.o4 h.o1 (by decide) q hq e), he, h.e2, h.e3, h.e4, h.ap⟩
theorem OwD.app4 {w w' : World} {B n1 p1 n2 p2 n3 p3 n4 p4 n7 p7 : Nat} {A1 A2 A3 A4 A7 : Option Addr} {d : Dsk} {l7 : List DOp} (h : OwD w B A1 n1 p1 A2 n2 p2 A3 n3 p3 A4 n4 p4 d) (hg : w.grownBy w' (Value.slice A4 n4 p4).ownBlock) (ho : w'.ownsRow B 48 4 (.slice A7 n7 p7) n7 (l7.flatMap encO)) (he : n7 = l7.length) : OwD w' B A1 n1 p1 A2 n2 p2 A3 n3 p3 A7 n7 p7 ⟨d.inodes, d.dir, d.dur, l7⟩ :=
  ⟨ownG_grown h.o1 hg (fun q hq e => own_ty_apart h.o1 h.o4 (by decide) q hq e), ownG_grown h.o2 hg (fun q hq e => own_ty_apart h.o2 h.o4 (by decide) q hq e), ownG_grown h.o3 hg (fun q hq e => own_ty_apart h.o3 h.o4 (by decide) q hq e), ho, h.e1, h.e2, h.e3, he, h.ap⟩
theorem OwD.chg {w w' : World} {B n1 p1 n2 p2 n3 p3 n4 p4 n5 p5 : Nat} {A1 A2 A3 A4 A5 : Option Addr} {d : Dsk} {l5 : List Ent} (h : OwD w B A1 n1 p1 A2 n2 p2 A3 n3 p3 A4 n4 p4 d) (hg : w.grownBy w' (Value.slice A2 n2 p2).ownBlock) (ho : w'.ownsRow B 35 2 (.slice A5 n5 p5) n5 (l5.flatMap encE)) (he : n5 = l5.length)
    (hat : (Value.slice A5 n5 p5).ownBlock = (Value.slice A2 n2 p2).ownBlock ∨ (Value.slice A5 n5 p5).ownBlock = none ∨ ∃ q, (Value.slice A5 n5 p5).ownBlock = some q ∧ w.heap.size ≤ q) : OwD w' B A1 n1 p1 A5 n5 p5 A3 n3 p3 A4 n4 p4 ⟨d.inodes, l5, d.dur, d.ops⟩ :=
  ⟨ownG_grown h.o1 hg (fun q hq e => own_ty_apart h.o1 h.o2 (by decide) q hq e), ho, ownG_grown h.o3 hg (fun q hq e => h.ap q e hq), ownG_grown h.o4 hg (fun q hq e => own_ty_apart h.o4 h.o2 (by decide) q hq e), h.e1, he, h.e3, h.e4, fun q hq hq3 => by
    rcases hat with h1 | h1 | ⟨q', h1, h2⟩
    · exact h.ap q (h1 ▸ hq) hq3
    · rw [h1] at hq; cases hq
    · rw [h1] at hq
      injection hq with hq
      have := (ownG_lt h.o3 hq3).2
      omega⟩
/-- What apply answers. -/
def AplP (w : World) (B : Nat) (S : Nat → Prop) (r : Dsk × Nat) (e : Ending) (w' : World) : Prop := ∃ A1 n1 p1 A2 n2 p2 A3 n3 p3 A4 n4 p4, e = .returned (.tuple #[.agg #[.slice A1 n1 p1, .slice A2 n2 p2, .slice A3 n3 p3, .slice A4 n4 p4], .int .i64 (r.2 : Int)]) ∧ OwD w' B A1 n1 p1 A2 n2 p2 A3 n3 p3 A4 n4 p4 r.1 ∧ KpS S w w'
theorem AplP.no {w w' : World} {B : Nat} {S : Nat → Prop} {r : Dsk × Nat} {k : Nat} {e : Ending} (hr : r = (.nil, k)) (he : e = .returned (.tuple #[nilD, .int .i64 (k : Int)])) (hb : KpS S w w') : AplP w B S r e w' := by
  subst hr
  exact ⟨_, _, _, _, _, _, _, _, _, _, _, _, he, OwD.nil _ _, hb⟩
theorem AplP.ok {w w' : World} {B : Nat} {S : Nat → Prop} {r : Dsk × Nat} {d : Dsk} {e : Ending} {A1 A2 A3 A4 : Option Addr} {n1 p1 n2 p2 n3 p3 n4 p4 : Nat} (hr : r = (d, 0)) (he : e = .returned (.tuple #[.agg #[.slice A1 n1 p1, .slice A2 n2 p2, .slice A3 n3 p3, .slice A4 n4 p4], .int .i64 0])) (hd : OwD w' B A1 n1 p1 A2 n2 p2 A3 n3 p3 A4 n4 p4 d) (hb : KpS S w w') : AplP w B S r e w' := by
  subst hr
  exact ⟨_, _, _, _, _, _, _, _, _, _, _, _, he, hd, hb⟩
set_option maxHeartbeats 16000000 in
set_option maxRecDepth 100000 in
theorem apply_any (B : Nat) (A1 : Option Addr) (n1 p1 : Nat) (A2 : Option Addr) (n2 p2 : Nat) (A3 : Option Addr) (n3 p3 : Nat) (A4 : Option Addr) (n4 p4 : Nat) (d : Dsk) (o : DOp) (w : World) (h : OwD w B A1 n1 p1 A2 n2 p2 A3 n3 p3 A4 n4 p4 d) (hB : B ≤ w.heap.size) (hs : szD d) (hv : validM d = true) (ho : o.2.2.2.length ≤ 140737488355328) :
    Calls Try.prog 59 #[.agg #[.slice A1 n1 p1, .slice A2 n2 p2, .slice A3 n3 p3, .slice A4 n4 p4], oV o] w (AplP w B (rowsS A1 A2 A3 A4) (appM d o)) := by
  obtain ⟨kd, s, t, dd⟩ := o
  have HFD := hide (fun (wx : World) => fields_any (kd, s, t, dd) wx)
  unfold oV at HFD ⊢
  simp only [] at HFD ho ⊢
  have hn1 : n1 ≤ 100000 := by rw [h.e1]; exact hs.1
  have hn2 : n2 ≤ 100000 := by rw [h.e2]; exact hs.2.1
  have hn4 : n4 ≤ 100000 := by rw [h.e4]; exact hs.2.2.2
  have HOW := hide h
  have HBB := hide hB
  have HS := hide hs
  have HVD := hide ((valid_iff d).1 hv)
  have HLT := hide h.rows_lt
  obtain ⟨r, hr⟩ : ∃ r, r = appM d (kd, s, t, dd) := ⟨_, rfl⟩
  have HR := hide hr
  rw [← hr]
  obtain ⟨fm, hfm⟩ : ∃ fm, fm = fieldsM (kd, s, t, dd) := ⟨_, rfl⟩
  have HFM := hide hfm
  rw [← hfm] at HFD
  obtain ⟨i0, hi0, hz0, hz1, hz2⟩ := info_parts info_inode
  obtain ⟨j0, hj0, hy0, hy1, hy2⟩ := info_parts info_op
  clear h hs hv hr hfm
  obtain ⟨W3, hW3⟩ : ∃ W3, W3 = ((w.alloc (.cells [.slice A1 n1 p1, .slice A2 n2 p2, .slice A3 n3 p3, .slice A4 n4 p4].toArray 27)).alloc (.cells [.int .i64 kd, .string (bstr s), .string (bstr t), .string (bstr dd)].toArray 48)).alloc (.cells [.slice none 0 0, .slice none 0 0, .slice none 0 0, .slice none 0 0].toArray 27) := ⟨_, rfl⟩
  have B0 := hide (show Blk W3 w.heap.size [.slice A1 n1 p1, .slice A2 n2 p2, .slice A3 n3 p3, .slice A4 n4 p4] 27 by rw [hW3]; exact ((Blk.new w _ _).alloc _).alloc _)
  have B1 := hide (show Blk W3 (w.heap.size + 1) [.int .i64 kd, .string (bstr s), .string (bstr t), .string (bstr dd)] 48 by rw [hW3]; exact (Blk.newG (by simp) _ _).alloc _)
  have B2 := hide (show Blk W3 (w.heap.size + 1 + 1) [.slice none 0 0, .slice none 0 0, .slice none 0 0, .slice none 0 0] 27 by rw [hW3]; exact Blk.newG (by simp) _ _)
  have BO := hide (show OwD W3 B A1 n1 p1 A2 n2 p2 A3 n3 p3 A4 n4 p4 d by rw [hW3]; exact ((HOW.out.below (bl_alloc (bl_refl _) _)).below (bl_alloc (bl_refl _) _)).below (bl_alloc (bl_refl _) _))
  have HB3 := hide (show Below w.heap.size w W3 by rw [hW3]; exact bl_alloc (bl_alloc (bl_alloc (bl_refl w) _) _) _)
  have HW3 := hide hW3
  clear hW3 HOW
  go_enter Try.func59, Try.ntmps59
  go_wp2_with fail
  rw [← HW3.out]
  clear HW3
  refine (HFD.out W3).mono ?_
  rintro e w1 ⟨rfl, hb1⟩
  have C0 := hide (B0.out.below hb1)
  have C1 := hide (B1.out.below hb1)
  have C2 := hide (B2.out.below hb1)
  have CO := hide (BO.out.below hb1)
  have HB1 := hide (HB3.out.trans (hb1.mono HB3.out.size))
  clear hb1 B0 B1 B2 BO HB3 HFD
  have d0 : w1.cell? ⟨w.heap.size, 0, none⟩ = some _ := C0.out.cell rfl
  have d1 : w1.cell? ⟨w.heap.size, 1, none⟩ = some _ := C0.out.cell rfl
  have d2 : w1.cell? ⟨w.heap.size, 2, none⟩ = some _ := C0.out.cell rfl
  have d3 : w1.cell? ⟨w.heap.size, 3, none⟩ = some _ := C0.out.cell rfl
  have o0 : w1.cell? ⟨w.heap.size + 1, 0, none⟩ = some _ := C1.out.cell rfl
  have o1 : w1.cell? ⟨w.heap.size + 1, 1, none⟩ = some _ := C1.out.cell rfl
  have o2 : w1.cell? ⟨w.heap.size + 1, 2, none⟩ = some _ := C1.out.cell rfl
  have o3 : w1.cell? ⟨w.heap.size + 1, 3, none⟩ = some _ := C1.out.cell rfl
  have y0 : w1.cell? ⟨w.heap.size + 1 + 1, 0, none⟩ = some _ := C2.out.cell rfl
  have y1 : w1.cell? ⟨w.heap.size + 1 + 1, 1, none⟩ = some _ := C2.out.cell rfl
  have y2 : w1.cell? ⟨w.heap.size + 1 + 1, 2, none⟩ = some _ := C2.out.cell rfl
  have y3 : w1.cell? ⟨w.heap.size + 1 + 1, 3, none⟩ = some _ := C2.out.cell rfl
  have l0 := C0.out.lt
  have l2 := C2.out.lt
  have f0 := C0.out.fr
  have f2 := C2.out.fr
  have HBL := hide (show KpS (rowsS A1 A2 A3 A4) w w1 from .of_below HB1.out)
  cases fm with
  | false =>
    have hr : r = (.nil, 1) := by rw [HR.out]; unfold appM; rw [if_pos HFM.out.symm]
    have HRR := hide hr
    clear hr
    go_wp2
    refine bodyPost_ret (results_cell_tmp_row Try.results59 _ _ (w.heap.size + 1 + 1) 27 _ _ rfl (C2.out.set4 _ _ _ _) Try.underlying27 rfl (by kernel_rfl)) rfl ?_
    exact .no HRR.out rfl (HBL.out.set4 (.inr (by omega)) _ _ _ _)
  | true =>
    have hra := HR.out
    unfold appM at hra
    rw [if_neg (by rw [← HFM.out]; decide)] at hra
    have HRA := hide hra
    clear hra HR
    by_cases hk6 : kd = 6
    · subst hk6
      rw [if_pos rfl] at HRA
      have HST := hide (settle_any B A1 n1 p1 A2 n2 p2 A3 n3 p3 A4 n4 p4 d w1 CO.out (Nat.le_trans hB HB1.out.size) HS.out (dirM_all HVD.out.1))
      go_wp2_with fail
      refine HST.out.mono ?_
      rintro e w2 ⟨A1', n1', p1', A2', n2', p2', A3', n3', p3', A4', n4', p4', rfl, how, hb2⟩
      have hne : (Value.slice A2 n2 p2).ownBlock ≠ some (w.heap.size + 1 + 1) := fun e => by have := (HLT.out _ (.inr (.inl (by rw [← ownBlock_map A2 n2 p2]; exact e)))).2; omega
      have D2 := hide (C2.out.grown hb2 hne)
      have HO2 := hide how
      have HK2 := hide (HBL.out.trans (KpS.of_grown hb2 (fun q hq => .inl (.inr (.inl (by rw [← ownBlock_map A2 n2 p2]; exact hq))))))
      clear how hb2 HST HBL CO C0 C1 C2 hne d0 d1 d2 d3 o0 o1 o2 o3 y0 y1 y2 y3 l0 l2 f0 f2
      have y0 : w2.cell? ⟨w.heap.size + 1 + 1, 0, none⟩ = some _ := D2.out.cell rfl
      have y1 : w2.cell? ⟨w.heap.size + 1 + 1, 1, none⟩ = some _ := D2.out.cell rfl
      have y2 : w2.cell? ⟨w.heap.size + 1 + 1, 2, none⟩ = some _ := D2.out.cell rfl
      have y3 : w2.cell? ⟨w.heap.size + 1 + 1, 3, none⟩ = some _ := D2.out.cell rfl
      have l2 := D2.out.lt
      have f2 := D2.out.fr
      go_wp2
      refine bodyPost_ret (results_cell_tmp_row Try.results59 _ _ (w.heap.size + 1 + 1) 27 _ _ rfl (D2.out.set4 _ _ _ _) Try.underlying27 rfl (by kernel_rfl)) rfl ?_
      exact .ok HRA.out rfl (HO2.out.set4 D2.out _ _ _ _) (HK2.out.set4 (.inr (by omega)) _ _ _ _)
    · rw [if_neg hk6] at HRA
      have hk6' : (kd == 6) = false := by simpa using hk6
      by_cases hk23 : kd = 2 ∨ kd = 3
      · rw [if_pos hk23] at HRA
        have hsd := srt_dir HVD.out.1
        have HF := hide (find_any A2 n2 p2 d.dir s w1 (own_RE2 CO.out.o2 CO.out.e2).1 (by omega) hsd)
        obtain ⟨p, hp⟩ : ∃ p, p = posM d.dir s := ⟨_, rfl⟩
        obtain ⟨hv, hhv⟩ : ∃ hv, hv = hasM d.dir s := ⟨_, rfl⟩
        have HP := hide hp
        have HH := hide hhv
        rw [← hp, ← hhv] at HF
        rw [← hhv] at HRA
        clear hp hhv hsd
        rcases hk23 with hk23 | hk23
        · skip
          subst hk23
          go_wp2_with fail
          refine HF.out.mono ?_
          rintro e w2 ⟨rfl, hb2⟩
          have D0 := hide (C0.out.below hb2)
          have D1 := hide (C1.out.below hb2)
          have D2 := hide (C2.out.below hb2)
          have DO := hide (CO.out.below hb2)
          have HK2 := hide (HBL.out.trans (KpS.of_below hb2))
          clear hb2 HBL CO C0 C1 C2 d0 d1 d2 d3 o0 o1 o2 o3 y0 y1 y2 y3 l0 l2 f0 f2 HF
          have d0 : w2.cell? ⟨w.heap.size, 0, none⟩ = some _ := D0.out.cell rfl
          have o0 : w2.cell? ⟨w.heap.size + 1, 0, none⟩ = some _ := D1.out.cell rfl
          have y0 : w2.cell? ⟨w.heap.size + 1 + 1, 0, none⟩ = some _ := D2.out.cell rfl
          have y1 : w2.cell? ⟨w.heap.size + 1 + 1, 1, none⟩ = some _ := D2.out.cell rfl
          have y2 : w2.cell? ⟨w.heap.size + 1 + 1, 2, none⟩ = some _ := D2.out.cell rfl
          have y3 : w2.cell? ⟨w.heap.size + 1 + 1, 3, none⟩ = some _ := D2.out.cell rfl
          have l2 := D2.out.lt
          have f2 := D2.out.fr
          cases hv with
          | false =>
            have hr : r = (.nil, 11) := by rw [HRA.out, if_pos rfl]
            have HRR := hide hr
            clear hr
            go_wp2
            refine bodyPost_ret (results_cell_tmp_row Try.results59 _ _ (w.heap.size + 1 + 1) 27 _ _ rfl (D2.out.set4 _ _ _ _) Try.underlying27 rfl (by kernel_rfl)) rfl ?_
            exact .no HRR.out rfl (HK2.out.set4 (.inr (by omega)) _ _ _ _)
          | true =>
            rw [if_neg (by decide)] at HRA
            obtain ⟨q, hq⟩ := has_at (srt_dir HVD.out.1) HH.out.symm
            have hiq := ino_at (srt_dir HVD.out.1) hq
            have hlt := ino_lt HVD.out.1 HH.out.symm
            rw [hiq] at hlt
            rw [← HP.out] at hq
            obtain ⟨j, rfl⟩ : ∃ j : Nat, q = (j : Int) := ⟨q.toNat, by omega⟩
            have hjn : j < n1 := by rw [DO.out.e1]; omega
            have hpn : p < n2 := by rw [DO.out.e2]; exact (List.getElem?_eq_some_iff.1 hq).1
            obtain ⟨⟨xd, xs⟩, hx⟩ : ∃ e, d.inodes[j]? = some e := ⟨_, List.getElem?_eq_getElem (by rw [← DO.out.e1]; exact hjn)⟩
            have hxl : xd.length ≤ 1048576 := by
              have := HVD.out.2.2.2.2.1 j _ hx
              unfold inodeM at this
              simp only [Bool.and_eq_true, decide_eq_true_eq] at this
              exact this.2
            have hra := HRA.out
            simp only [hiq, Int.toNat_natCast, show d.inodes.getD j ([], 0) = (xd, xs) by rw [List.getD_eq_getElem?_getD, hx]; rfl] at hra
            have HRB := hide hra
            have HX := hide hx
            obtain ⟨g1, cur1, rfl, hg1, -⟩ := ownG_inv DO.out.o1 (by omega)
            obtain ⟨g2, cur2, rfl, hg2, -⟩ := ownG_inv DO.out.o2 (by omega)
            have z1 := (ownG_at DO.out.o2 (flat_get encE_len _ p 1 _ _ hq rfl)).1
            have hji : (j : Int) < (n1 : Int) := by omega
            have hpi : (p : Int) < (n2 : Int) := by omega
            have hg1w := (HLT.out g1 (.inl rfl)).2
            clear hq hiq hlt hx hra HRA
            go_wp2_with fail
            have HCC := hide (fun (wx : World) (hC : CB w2.drew wx) => show wx.cell? ⟨w.heap.size, 0, none⟩ = some (.slice (some ⟨g1, 0, none⟩) n1 p1) ∧ wx.cell? ⟨w.heap.size, 1, none⟩ = some (.slice (some ⟨g2, 0, none⟩) n2 p2) ∧ wx.cell? ⟨g2, p * 2 + 1, none⟩ = some (.int .i64 (j : Int)) from ⟨(D0.out.below hC.below).cell rfl, (D0.out.below hC.below).cell rfl, hC.cell z1⟩)
            refine wp_region_K 9 (by kernel_rfl) (by kernel_rfl) (fun Q HQ => ?_)
            simp only [List.take_succ_cons, List.take_zero, List.map_cons, List.map_nil]
            repeat
              first | apply wpS_c rfl | apply wpS_gc rfl (guard_mk rfl rfl)
              focus
                intro ev wx hC hx
                (try simp [Op.operands, Call.operands, opndS, Slot.holds] at hx)
                obtain ⟨k0, k1, k2⟩ := HCC.out wx hC
                go_simp
                try (first | exact rfl | exact ⟨Below.refl _ _, rfl⟩)
                done
              dsimp only [setS, List.set]
            refine wpS_nil (HQ _ fun w4 hC4 => ?_)
            simp only [closeS, List.drop_succ_cons, List.drop_zero, List.drop_nil]
            have hb4 := hC4.below
            have E0 := hide (D0.out.below hb4)
            have E1 := hide (D1.out.below hb4)
            have E2 := hide (D2.out.below hb4)
            have EO := hide (DO.out.below hb4)
            have HK4 := hide (HK2.out.trans (KpS.of_below hb4))
            clear hb4 hC4 HQ HCC z1 D0 D1 D2 DO HK2 d0 o0 y0 y1 y2 y3 l2 f2
            obtain ⟨x0, fx0⟩ := ownG_at EO.out.o1 (flat_get encE_len _ j 0 _ _ HX.out rfl)
            obtain ⟨x1, fx1⟩ := ownG_at EO.out.o1 (flat_get encE_len _ j 1 _ _ HX.out rfl)
            rw [Nat.add_zero] at x0 fx0
            have d0 : w4.cell? ⟨w.heap.size, 0, none⟩ = some _ := E0.out.cell rfl
            have d1 : w4.cell? ⟨w.heap.size, 1, none⟩ = some _ := E0.out.cell rfl
            have d2 : w4.cell? ⟨w.heap.size, 2, none⟩ = some _ := E0.out.cell rfl
            have d3 : w4.cell? ⟨w.heap.size, 3, none⟩ = some _ := E0.out.cell rfl
            have o0 : w4.cell? ⟨w.heap.size + 1, 0, none⟩ = some _ := E1.out.cell rfl
            have y0 : w4.cell? ⟨w.heap.size + 1 + 1, 0, none⟩ = some _ := E2.out.cell rfl
            have y1 : w4.cell? ⟨w.heap.size + 1 + 1, 1, none⟩ = some _ := E2.out.cell rfl
            have y2 : w4.cell? ⟨w.heap.size + 1 + 1, 2, none⟩ = some _ := E2.out.cell rfl
            have y3 : w4.cell? ⟨w.heap.size + 1 + 1, 3, none⟩ = some _ := E2.out.cell rfl
            have l2 := E2.out.lt
            have f2 := E2.out.fr
            have HRC := HRB
            rw [if_neg (by decide)] at HRC
            go_wp2_with fail
            have HC5 := hide (fun (wx : World) (hC : CB w4.drew wx) => show wx.cell? ⟨g1, j * 2, none⟩ = some (.string (bstr xd)) ∧ wx.cell? ⟨w.heap.size + 1, 3, none⟩ = some (.string (bstr dd)) from ⟨hC.cell x0, (E1.out.below hC.below).cell rfl⟩)
            have EW := hide (show IntKind.i64.wrap (((bstr xd).size : Int) + ((bstr dd).size : Int)) = (xd.length : Int) + (dd.length : Int) by rw [bstr_size, bstr_size, wrap_ok (by omega) (by omega)])
            refine wp_region_K 10 (by kernel_rfl) (by kernel_rfl) (fun Q HQ => ?_)
            simp only [List.take_succ_cons, List.take_zero, List.map_cons, List.map_nil]
            repeat
              first | apply wpS_c rfl | apply wpS_gc rfl (guard_mk rfl rfl)
              focus
                intro ev wx hC hx
                (try simp [Op.operands, Call.operands, opndS, Slot.holds] at hx)
                obtain ⟨k0, k1⟩ := HC5.out wx hC
                go_simp
                try (first | exact rfl | exact ⟨Below.refl _ _, rfl⟩)
                done
              dsimp only [setS, List.set]
            refine wpS_nil (HQ _ fun w6 hC6 => ?_)
            simp only [closeS, List.drop_succ_cons, List.drop_zero, List.drop_nil]
            have hb6 := hC6.below
            have I0 := hide (E0.out.below hb6)
            have I1 := hide (E1.out.below hb6)
            have I2 := hide (E2.out.below hb6)
            have IOx := hide (EO.out.below hb6)
            have HK6 := hide (HK4.out.trans (KpS.of_below hb6))
            clear hb6 hC6 HQ E0 E1 E2 EO HK4 d0 d1 d2 d3 o0 x0 fx0 x1 fx1 y0 y1 y2 y3 l2 f2 HC5
            have y0 : w6.cell? ⟨w.heap.size + 1 + 1, 0, none⟩ = some _ := I2.out.cell rfl
            have y1 : w6.cell? ⟨w.heap.size + 1 + 1, 1, none⟩ = some _ := I2.out.cell rfl
            have y2 : w6.cell? ⟨w.heap.size + 1 + 1, 2, none⟩ = some _ := I2.out.cell rfl
            have y3 : w6.cell? ⟨w.heap.size + 1 + 1, 3, none⟩ = some _ := I2.out.cell rfl
            have l2 := I2.out.lt
            have f2 := I2.out.fr
            by_cases hfu : 1048576 < xd.length + dd.length
            · have hr : r = (.nil, 21) := by rw [HRC.out, if_pos hfu]
              have HRR := hide hr
              have hfi : (1048576 : Int) < IntKind.i64.wrap (((bstr xd).size : Int) + ((bstr dd).size : Int)) := by rw [EW.out]; omega
              clear hr hfu
              go_wp2
              refine bodyPost_ret (results_cell_tmp_row Try.results59 _ _ (w.heap.size + 1 + 1) 27 _ _ rfl (I2.out.set4 _ _ _ _) Try.underlying27 rfl (by kernel_rfl)) rfl ?_
              exact .no HRR.out rfl (HK6.out.set4 (.inr (by omega)) _ _ _ _)
            · have hr := HRC.out
              rw [if_neg hfu] at hr
              have HRR := hide hr
              have hfi : ¬ (1048576 : Int) < IntKind.i64.wrap (((bstr xd).size : Int) + ((bstr dd).size : Int)) := by rw [EW.out]; omega
              clear hr hfu
              go_wp2_with fail
              clear hfi
              obtain ⟨x0, fx0⟩ := ownG_at IOx.out.o1 (flat_get encE_len _ j 0 _ _ HX.out rfl)
              rw [Nat.add_zero] at x0 fx0
              have HC6 := hide (fun (wx : World) (hC : CB w6.drew wx) => show wx.cell? ⟨g1, j * 2, none⟩ = some (.string (bstr xd)) ∧ wx.cell? ⟨w.heap.size + 1, 3, none⟩ = some (.string (bstr dd)) from ⟨hC.cell x0, (I1.out.below hC.below).cell rfl⟩)
              have ey : ¬ (9223372036854775807 < (bstr xd).size + (bstr dd).size) := by rw [bstr_size, bstr_size]; omega
              refine wp_region_K 9 (by kernel_rfl) (by kernel_rfl) (fun Q HQ => ?_)
              simp only [List.take_succ_cons, List.take_zero, List.map_cons, List.map_nil]
              repeat
                first | apply wpS_c rfl | apply wpS_gc rfl (guard_mk rfl rfl)
                focus
                  intro ev wx hC hx
                  (try simp [Op.operands, Call.operands, opndS, Slot.holds] at hx)
                  obtain ⟨k0, k1⟩ := HC6.out wx hC
                  go_simp
                  try (first | exact rfl | exact ⟨Below.refl _ _, rfl⟩)
                  done
                dsimp only [setS, List.set]
              refine wpS_nil (HQ _ fun w7 hC7 => ?_)
              simp only [closeS, List.drop_succ_cons, List.drop_zero, List.drop_nil]
              have hb7 := hC7.below
              have J0 := hide (I0.out.below hb7)
              have J2 := hide (I2.out.below hb7)
              have JO := hide (IOx.out.below hb7)
              have HK7 := hide (HK6.out.trans (KpS.of_below hb7))
              clear hb7 hC7 HQ I0 I1 I2 IOx HK6 x0 fx0 y0 y1 y2 y3 l2 f2 HC6 ey
              obtain ⟨x0, fx0⟩ := ownG_at JO.out.o1 (flat_get encE_len _ j 0 _ _ HX.out rfl)
              rw [Nat.add_zero] at x0 fx0
              have d0 : w7.cell? ⟨w.heap.size, 0, none⟩ = some _ := J0.out.cell rfl
              have d1 : w7.cell? ⟨w.heap.size, 1, none⟩ = some _ := J0.out.cell rfl
              have d2 : w7.cell? ⟨w.heap.size, 2, none⟩ = some _ := J0.out.cell rfl
              have d3 : w7.cell? ⟨w.heap.size, 3, none⟩ = some _ := J0.out.cell rfl
              have y0 : w7.cell? ⟨w.heap.size + 1 + 1, 0, none⟩ = some _ := J2.out.cell rfl
              have y1 : w7.cell? ⟨w.heap.size + 1 + 1, 1, none⟩ = some _ := J2.out.cell rfl
              have y2 : w7.cell? ⟨w.heap.size + 1 + 1, 2, none⟩ = some _ := J2.out.cell rfl
              have y3 : w7.cell? ⟨w.heap.size + 1 + 1, 3, none⟩ = some _ := J2.out.cell rfl
              have l2 := J2.out.lt
              have f2 := J2.out.fr
              go_wp2
              rw [bstr_app]
              refine bodyPost_ret (results_cell_tmp_row Try.results59 _ _ (w.heap.size + 1 + 1) 27 _ _ rfl ((J2.out.setne (by omega) _ _).set4 _ _ _ _) Try.underlying27 rfl (by kernel_rfl)) rfl ?_
              exact .ok HRR.out rfl ((JO.out.setD HX.out _).set4 (J2.out.setne (by omega) _ _) _ _ _ _) ((HK7.out.setC (.inl (.inl rfl)) _ _).set4 (.inr (by omega)) _ _ _ _)
        · skip
          subst hk23
          go_wp2_with fail
          refine HF.out.mono ?_
          rintro e w2 ⟨rfl, hb2⟩
          have D0 := hide (C0.out.below hb2)
          have D1 := hide (C1.out.below hb2)
          have D2 := hide (C2.out.below hb2)
          have DO := hide (CO.out.below hb2)
          have HK2 := hide (HBL.out.trans (KpS.of_below hb2))
          clear hb2 HBL CO C0 C1 C2 d0 d1 d2 d3 o0 o1 o2 o3 y0 y1 y2 y3 l0 l2 f0 f2 HF
          have d0 : w2.cell? ⟨w.heap.size, 0, none⟩ = some _ := D0.out.cell rfl
          have o0 : w2.cell? ⟨w.heap.size + 1, 0, none⟩ = some _ := D1.out.cell rfl
          have y0 : w2.cell? ⟨w.heap.size + 1 + 1, 0, none⟩ = some _ := D2.out.cell rfl
          have y1 : w2.cell? ⟨w.heap.size + 1 + 1, 1, none⟩ = some _ := D2.out.cell rfl
          have y2 : w2.cell? ⟨w.heap.size + 1 + 1, 2, none⟩ = some _ := D2.out.cell rfl
          have y3 : w2.cell? ⟨w.heap.size + 1 + 1, 3, none⟩ = some _ := D2.out.cell rfl
          have l2 := D2.out.lt
          have f2 := D2.out.fr
          cases hv with
          | false =>
            have hr : r = (.nil, 11) := by rw [HRA.out, if_pos rfl]
            have HRR := hide hr
            clear hr
            go_wp2
            refine bodyPost_ret (results_cell_tmp_row Try.results59 _ _ (w.heap.size + 1 + 1) 27 _ _ rfl (D2.out.set4 _ _ _ _) Try.underlying27 rfl (by kernel_rfl)) rfl ?_
            exact .no HRR.out rfl (HK2.out.set4 (.inr (by omega)) _ _ _ _)
          | true =>
            rw [if_neg (by decide)] at HRA
            obtain ⟨q, hq⟩ := has_at (srt_dir HVD.out.1) HH.out.symm
            have hiq := ino_at (srt_dir HVD.out.1) hq
            have hlt := ino_lt HVD.out.1 HH.out.symm
            rw [hiq] at hlt
            rw [← HP.out] at hq
            obtain ⟨j, rfl⟩ : ∃ j : Nat, q = (j : Int) := ⟨q.toNat, by omega⟩
            have hjn : j < n1 := by rw [DO.out.e1]; omega
            have hpn : p < n2 := by rw [DO.out.e2]; exact (List.getElem?_eq_some_iff.1 hq).1
            obtain ⟨⟨xd, xs⟩, hx⟩ : ∃ e, d.inodes[j]? = some e := ⟨_, List.getElem?_eq_getElem (by rw [← DO.out.e1]; exact hjn)⟩
            have hxl : xd.length ≤ 1048576 := by
              have := HVD.out.2.2.2.2.1 j _ hx
              unfold inodeM at this
              simp only [Bool.and_eq_true, decide_eq_true_eq] at this
              exact this.2
            have hra := HRA.out
            simp only [hiq, Int.toNat_natCast, show d.inodes.getD j ([], 0) = (xd, xs) by rw [List.getD_eq_getElem?_getD, hx]; rfl] at hra
            have HRB := hide hra
            have HX := hide hx
            obtain ⟨g1, cur1, rfl, hg1, -⟩ := ownG_inv DO.out.o1 (by omega)
            obtain ⟨g2, cur2, rfl, hg2, -⟩ := ownG_inv DO.out.o2 (by omega)
            have z1 := (ownG_at DO.out.o2 (flat_get encE_len _ p 1 _ _ hq rfl)).1
            have hji : (j : Int) < (n1 : Int) := by omega
            have hpi : (p : Int) < (n2 : Int) := by omega
            have hg1w := (HLT.out g1 (.inl rfl)).2
            clear hq hiq hlt hx hra HRA
            go_wp2_with fail
            have HCC := hide (fun (wx : World) (hC : CB w2.drew wx) => show wx.cell? ⟨w.heap.size, 0, none⟩ = some (.slice (some ⟨g1, 0, none⟩) n1 p1) ∧ wx.cell? ⟨w.heap.size, 1, none⟩ = some (.slice (some ⟨g2, 0, none⟩) n2 p2) ∧ wx.cell? ⟨g2, p * 2 + 1, none⟩ = some (.int .i64 (j : Int)) from ⟨(D0.out.below hC.below).cell rfl, (D0.out.below hC.below).cell rfl, hC.cell z1⟩)
            refine wp_region_K 9 (by kernel_rfl) (by kernel_rfl) (fun Q HQ => ?_)
            simp only [List.take_succ_cons, List.take_zero, List.map_cons, List.map_nil]
            repeat
              first | apply wpS_c rfl | apply wpS_gc rfl (guard_mk rfl rfl)
              focus
                intro ev wx hC hx
                (try simp [Op.operands, Call.operands, opndS, Slot.holds] at hx)
                obtain ⟨k0, k1, k2⟩ := HCC.out wx hC
                go_simp
                try (first | exact rfl | exact ⟨Below.refl _ _, rfl⟩)
                done
              dsimp only [setS, List.set]
            refine wpS_nil (HQ _ fun w4 hC4 => ?_)
            simp only [closeS, List.drop_succ_cons, List.drop_zero, List.drop_nil]
            have hb4 := hC4.below
            have E0 := hide (D0.out.below hb4)
            have E1 := hide (D1.out.below hb4)
            have E2 := hide (D2.out.below hb4)
            have EO := hide (DO.out.below hb4)
            have HK4 := hide (HK2.out.trans (KpS.of_below hb4))
            clear hb4 hC4 HQ HCC z1 D0 D1 D2 DO HK2 d0 o0 y0 y1 y2 y3 l2 f2
            obtain ⟨x0, fx0⟩ := ownG_at EO.out.o1 (flat_get encE_len _ j 0 _ _ HX.out rfl)
            obtain ⟨x1, fx1⟩ := ownG_at EO.out.o1 (flat_get encE_len _ j 1 _ _ HX.out rfl)
            rw [Nat.add_zero] at x0 fx0
            have d0 : w4.cell? ⟨w.heap.size, 0, none⟩ = some _ := E0.out.cell rfl
            have d1 : w4.cell? ⟨w.heap.size, 1, none⟩ = some _ := E0.out.cell rfl
            have d2 : w4.cell? ⟨w.heap.size, 2, none⟩ = some _ := E0.out.cell rfl
            have d3 : w4.cell? ⟨w.heap.size, 3, none⟩ = some _ := E0.out.cell rfl
            have o0 : w4.cell? ⟨w.heap.size + 1, 0, none⟩ = some _ := E1.out.cell rfl
            have y0 : w4.cell? ⟨w.heap.size + 1 + 1, 0, none⟩ = some _ := E2.out.cell rfl
            have y1 : w4.cell? ⟨w.heap.size + 1 + 1, 1, none⟩ = some _ := E2.out.cell rfl
            have y2 : w4.cell? ⟨w.heap.size + 1 + 1, 2, none⟩ = some _ := E2.out.cell rfl
            have y3 : w4.cell? ⟨w.heap.size + 1 + 1, 3, none⟩ = some _ := E2.out.cell rfl
            have l2 := E2.out.lt
            have f2 := E2.out.fr
            have HRC := HRB
            rw [if_pos trivial] at HRC
            go_wp2
            rw [bstr_size]
            refine bodyPost_ret (results_cell_tmp_row Try.results59 _ _ (w.heap.size + 1 + 1) 27 _ _ rfl ((E2.out.setne (by omega) _ _).set4 _ _ _ _) Try.underlying27 rfl (by kernel_rfl)) rfl ?_
            exact .ok HRC.out rfl ((EO.out.setS HX.out _).set4 (E2.out.setne (by omega) _ _) _ _ _ _) ((HK4.out.setC (.inl (.inl rfl)) _ _).set4 (.inr (by omega)) _ _ _ _)
      · rw [if_neg hk23] at HRA
        have hk2' : (kd == 2) = false := by rw [beq_eq_false_iff_ne]; exact fun h => hk23 (.inl h)
        have hk3' : (kd == 3) = false := by rw [beq_eq_false_iff_ne]; exact fun h => hk23 (.inr h)
        have hkc : kd = 1 ∨ kd = 4 ∨ kd = 5 := by
          have hf := HFM.out
          unfold fieldsM at hf
          simp only [] at hf
          by_cases h1 : kd = 1
          · exact .inl h1
          · by_cases h4 : kd = 4
            · exact .inr (.inl h4)
            · by_cases h5 : kd = 5
              · exact .inr (.inr h5)
              · exfalso
                rw [if_neg (by rintro (h | h | h); exact h1 h; exact hk23 (.inr h); exact h5 h), if_neg (fun h => hk23 (.inl h)), if_neg h4, if_neg hk6] at hf
                cases hf
        have hst1 := step_chg1 d.dir (kd, s, t, dd) d.inodes.length hkc HFM.out.symm
        have hsn : Srt (stepM d.dir (kd, s, t, dd) d.inodes.length).1 := srt_step (srt_dir HVD.out.1)
        have hsl := step_len d.dir (kd, s, t, dd) d.inodes.length
        have HCH := hide (change_any B A2 n2 p2 d.dir (kd, s, t, dd) (n1 : Int) w1 CO.out.o2 (by omega) CO.out.e2 (srt_dir HVD.out.1) (Nat.le_trans hB HB1.out.size))
        rw [show (n1 : Int) = (d.inodes.length : Int) by rw [CO.out.e1]] at HCH
        rw [← hst1] at HCH
        obtain ⟨⟨l2', er⟩, hst⟩ : ∃ q, q = stepM d.dir (kd, s, t, dd) d.inodes.length := ⟨_, rfl⟩
        rw [← hst] at HCH HRA hsl
        rw [show (d.inodes.length : Int) = (n1 : Int) by rw [CO.out.e1]] at HCH
        unfold oV at HCH
        simp only [] at HCH HRA hsl
        have hl9 : l2'.length ≤ 200000 := by have := HS.out.2.1; omega
        clear hst hst1 hsn hsl hk23 hk6
        go_wp2_with fail
        refine HCH.out.mono ?_
        rintro e w5 ⟨v5, rfl, hg5, ho5, hat5⟩
        simp only [] at ho5
        obtain ⟨A5, p5, rfl, hp5, hr5⟩ := ownG_form ho5
        have hne : (Value.slice A2 n2 p2).ownBlock ≠ some w.heap.size ∧ (Value.slice A2 n2 p2).ownBlock ≠ some (w.heap.size + 1) ∧ (Value.slice A2 n2 p2).ownBlock ≠ some (w.heap.size + 1 + 1) := by
          refine ⟨fun e => ?_, fun e => ?_, fun e => ?_⟩ <;> (have := (HLT.out _ (.inr (.inl (by rw [← ownBlock_map A2 n2 p2]; exact e)))).2; omega)
        have F0 := hide (C0.out.grown hg5 hne.1)
        have F1 := hide (C1.out.grown hg5 hne.2.1)
        have F2 := hide (C2.out.grown hg5 hne.2.2)
        have FO := hide (CO.out.chg hg5 ho5 rfl hat5)
        have FK := hide (HBL.out.trans (KpS.of_grown hg5 (fun q hq => .inl (.inr (.inl (by rw [← ownBlock_map A2 n2 p2]; exact hq))))))
        have HN1 := hide CO.out.e1
        have HN4 := hide CO.out.e4
        clear hg5 ho5 hat5 hr5 hne HCH HBL CO C0 C1 C2 d0 d1 d2 d3 o0 o1 o2 o3 y0 y1 y2 y3 l0 l2 f0 f2
        have d0 : w5.cell? ⟨w.heap.size, 0, none⟩ = some _ := F0.out.cell rfl
        have d1 : w5.cell? ⟨w.heap.size, 1, none⟩ = some _ := F0.out.cell rfl
        have d2 : w5.cell? ⟨w.heap.size, 2, none⟩ = some _ := F0.out.cell rfl
        have d3 : w5.cell? ⟨w.heap.size, 3, none⟩ = some _ := F0.out.cell rfl
        have o0 : w5.cell? ⟨w.heap.size + 1, 0, none⟩ = some _ := F1.out.cell rfl
        have o1 : w5.cell? ⟨w.heap.size + 1, 1, none⟩ = some _ := F1.out.cell rfl
        have o2 : w5.cell? ⟨w.heap.size + 1, 2, none⟩ = some _ := F1.out.cell rfl
        have o3 : w5.cell? ⟨w.heap.size + 1, 3, none⟩ = some _ := F1.out.cell rfl
        have l0 := F0.out.lt
        have f0 := F0.out.fr
        have y0 : w5.cell? ⟨w.heap.size + 1 + 1, 0, none⟩ = some _ := F2.out.cell rfl
        have y1 : w5.cell? ⟨w.heap.size + 1 + 1, 1, none⟩ = some _ := F2.out.cell rfl
        have y2 : w5.cell? ⟨w.heap.size + 1 + 1, 2, none⟩ = some _ := F2.out.cell rfl
        have y3 : w5.cell? ⟨w.heap.size + 1 + 1, 3, none⟩ = some _ := F2.out.cell rfl
        have l2 := F2.out.lt
        have f2 := F2.out.fr
        simp only []
        by_cases her : er = 0
        · subst her
          have hr := HRA.out
          rw [if_neg (by decide)] at hr
          have HRR := hide hr
          clear hr HRA
          have R0 := hide (FO.out.setC F0.out 1 (.slice A5 l2'.length p5))
          have RB := hide (F0.out.set 1 (.slice A5 l2'.length p5))
          have R1 := hide (F1.out.setne (show w.heap.size + 1 ≠ w.heap.size by omega) 1 (.slice A5 l2'.length p5))
          have R2 := hide (F2.out.setne (show w.heap.size + 1 + 1 ≠ w.heap.size by omega) 1 (.slice A5 l2'.length p5))
          have RK := hide (FK.out.setC (.inr (Nat.le_refl _)) 1 (.slice A5 l2'.length p5))
          by_cases hk1 : kd = 1
          · subst hk1
            rw [if_pos rfl] at HRR
            go_wp2_with (at_builtin; go_loud (first | (refine wpList_append_rd _ rfl (.tmp 97) (.tmp 99) 23 rfl B 33 i0 _ 2 24 Try.underlying23 hi0 hz0 hz1 hz2 rfl (by omega) _ _ _ rfl (ownG_below R0.out.o1 (bl_alloc (bl_refl _) _)) _ 1 _ ([(([] : List UInt8), (0 : Int))].flatMap encE) rfl rfl (rd_oneEG (by simp) (([] : List UInt8), (0 : Int)) _) (encE_one _) (by simp only [maxLen]; omega) (by omega) (by have h7 := RK.out.size; simp at h7 ⊢; omega) ?_; intro v7 w7 ho7 hg7 hat7; obtain ⟨A7, p7, e7, hp7, hr7⟩ := ownG_form ho7; obtain rfl := e7; have hne7 : ∀ g, w.heap.size ≤ g → (Value.slice A1 n1 p1).ownBlock ≠ some g := (fun g hg e => by have := (HLT.out _ (.inl (by rw [← ownBlock_map A1 n1 p1]; exact e))).2; omega); have S0 := hide ((RB.out.alloc _).grown hg7 (hne7 _ (Nat.le_refl _))); have S1 := hide ((R1.out.alloc _).grown hg7 (hne7 _ (by omega))); have S2 := hide ((R2.out.alloc _).grown hg7 (hne7 _ (by omega))); rw [← List.flatMap_append] at ho7; have SO := hide (OwD.app1 (R0.out.below (bl_alloc (bl_refl _) _)) hg7 ho7 (by have h7 := R0.out.e1; simp at h7 ⊢; omega)); have SK := hide ((RK.out.trans (KpS.of_below (bl_alloc (bl_refl _) _))).trans (KpS.of_grown hg7 (fun q hq => .inl (.inl (by rw [← ownBlock_map A1 n1 p1]; exact hq))))); have P0 := hide (S0.out.set 0 (.slice A7 (n1 + 1) p7)); have P2 := hide (S2.out.setne (show w.heap.size + 1 + 1 ≠ w.heap.size by omega) 0 (.slice A7 (n1 + 1) p7)); have PO := hide (SO.out.setC S0.out 0 (.slice A7 (n1 + 1) p7)); have PK := hide (SK.out.setC (.inr (Nat.le_refl _)) 0 (.slice A7 (n1 + 1) p7)); have t0 : w7.cell? ⟨w.heap.size, 0, none⟩ = some _ := S0.out.cell rfl; have t1 : w7.cell? ⟨w.heap.size, 1, none⟩ = some _ := S0.out.cell rfl; have t2 : w7.cell? ⟨w.heap.size, 2, none⟩ = some _ := S0.out.cell rfl; have t3 : w7.cell? ⟨w.heap.size, 3, none⟩ = some _ := S0.out.cell rfl; have ft := S0.out.fr; have lt0 := S0.out.lt; have s0 : w7.cell? ⟨w.heap.size + 1, 0, none⟩ = some _ := S1.out.cell rfl; have s1 : w7.cell? ⟨w.heap.size + 1, 1, none⟩ = some _ := S1.out.cell rfl; have s2 : w7.cell? ⟨w.heap.size + 1, 2, none⟩ = some _ := S1.out.cell rfl; have s3 : w7.cell? ⟨w.heap.size + 1, 3, none⟩ = some _ := S1.out.cell rfl; clear hg7 hat7 ho7 hr7 hne7) | (refine wpList_append_rd _ rfl (.tmp 103) (.tmp 105) 25 rfl B 48 j0 _ 4 56 Try.underlying25 hj0 hy0 hy1 hy2 rfl (by omega) _ _ _ rfl (ownG_below PO.out.o4 (bl_alloc (bl_refl _) _)) _ 1 _ ([((1 : Int), s, t, dd)].flatMap encO) rfl rfl (rd_oneOG (by simp) ((1 : Int), s, t, dd) _) (encO_one _) (by simp only [maxLen]; omega) (by omega) (by have h7 := PK.out.size; simp at h7 ⊢; omega) ?_; intro v8 w8 ho8 hg8 hat8; obtain ⟨A8, p8, e8, hp8, hr8⟩ := ownG_form ho8; obtain rfl := e8; have hne8 : ∀ g, w.heap.size ≤ g → (Value.slice A4 n4 p4).ownBlock ≠ some g := (fun g hg e => by have := (HLT.out _ (.inr (.inr (.inr (by rw [← ownBlock_map A4 n4 p4]; exact e))))).2; omega); have Q0 := hide ((P0.out.alloc _).grown hg8 (hne8 _ (Nat.le_refl _))); have Q2 := hide ((P2.out.alloc _).grown hg8 (hne8 _ (by omega))); rw [← List.flatMap_append] at ho8; have QO := hide (OwD.app4 (PO.out.below (bl_alloc (bl_refl _) _)) hg8 ho8 (by have h7 := PO.out.e4; simp at h7 ⊢; omega)); have QK := hide ((PK.out.trans (KpS.of_below (bl_alloc (bl_refl _) _))).trans (KpS.of_grown hg8 (fun q hq => .inl (.inr (.inr (.inr (by rw [← ownBlock_map A4 n4 p4]; exact hq))))))); have z0 : w8.cell? ⟨w.heap.size, 0, none⟩ = some _ := Q0.out.cell rfl; have z1 : w8.cell? ⟨w.heap.size, 1, none⟩ = some _ := Q0.out.cell rfl; have z2 : w8.cell? ⟨w.heap.size, 2, none⟩ = some _ := Q0.out.cell rfl; have z3 : w8.cell? ⟨w.heap.size, 3, none⟩ = some _ := Q0.out.cell rfl; have lz := Q0.out.lt; have fz := Q0.out.fr; have y0 : w8.cell? ⟨w.heap.size + 1 + 1, 0, none⟩ = some _ := Q2.out.cell rfl; have y1 : w8.cell? ⟨w.heap.size + 1 + 1, 1, none⟩ = some _ := Q2.out.cell rfl; have y2 : w8.cell? ⟨w.heap.size + 1 + 1, 2, none⟩ = some _ := Q2.out.cell rfl; have y3 : w8.cell? ⟨w.heap.size + 1 + 1, 3, none⟩ = some _ := Q2.out.cell rfl; have l2 := Q2.out.lt; have f2 := Q2.out.fr; clear hg8 hat8 ho8 hr8 hne8)))
            refine bodyPost_ret (results_cell_tmp_row Try.results59 _ _ (w.heap.size + 1 + 1) 27 _ _ rfl ((Q2.out.setne (by omega) _ _).set4 _ _ _ _) Try.underlying27 rfl (by kernel_rfl)) rfl ?_
            exact .ok HRR.out rfl ((QO.out.setC Q0.out _ _).set4 (Q2.out.setne (by omega) _ _) _ _ _ _) ((QK.out.setC (.inr (Nat.le_refl _)) _ _).set4 (.inr (by omega)) _ _ _ _)
          · have hk1' : (kd == 1) = false := by simpa using hk1
            rw [if_neg hk1] at HRR
            clear hk1
            have P0 := RB
            have P2 := R2
            have PO := R0
            have PK := RK
            go_wp2_with (at_builtin; go_loud (refine wpList_append_rd _ rfl (.tmp 103) (.tmp 105) 25 rfl B 48 j0 _ 4 56 Try.underlying25 hj0 hy0 hy1 hy2 rfl (by omega) _ _ _ rfl (ownG_below PO.out.o4 (bl_alloc (bl_refl _) _)) _ 1 _ ([(kd, s, t, dd)].flatMap encO) rfl rfl (rd_oneOG (by simp) (kd, s, t, dd) _) (encO_one _) (by simp only [maxLen]; omega) (by omega) (by have h7 := PK.out.size; simp at h7 ⊢; omega) ?_; intro v8 w8 ho8 hg8 hat8; obtain ⟨A8, p8, e8, hp8, hr8⟩ := ownG_form ho8; obtain rfl := e8; have hne8 : ∀ g, w.heap.size ≤ g → (Value.slice A4 n4 p4).ownBlock ≠ some g := (fun g hg e => by have := (HLT.out _ (.inr (.inr (.inr (by rw [← ownBlock_map A4 n4 p4]; exact e))))).2; omega); have Q0 := hide ((P0.out.alloc _).grown hg8 (hne8 _ (Nat.le_refl _))); have Q2 := hide ((P2.out.alloc _).grown hg8 (hne8 _ (by omega))); rw [← List.flatMap_append] at ho8; have QO := hide (OwD.app4 (PO.out.below (bl_alloc (bl_refl _) _)) hg8 ho8 (by have h7 := PO.out.e4; simp at h7 ⊢; omega)); have QK := hide ((PK.out.trans (KpS.of_below (bl_alloc (bl_refl _) _))).trans (KpS.of_grown hg8 (fun q hq => .inl (.inr (.inr (.inr (by rw [← ownBlock_map A4 n4 p4]; exact hq))))))); have z0 : w8.cell? ⟨w.heap.size, 0, none⟩ = some _ := Q0.out.cell rfl; have z1 : w8.cell? ⟨w.heap.size, 1, none⟩ = some _ := Q0.out.cell rfl; have z2 : w8.cell? ⟨w.heap.size, 2, none⟩ = some _ := Q0.out.cell rfl; have z3 : w8.cell? ⟨w.heap.size, 3, none⟩ = some _ := Q0.out.cell rfl; have lz := Q0.out.lt; have fz := Q0.out.fr; have y0 : w8.cell? ⟨w.heap.size + 1 + 1, 0, none⟩ = some _ := Q2.out.cell rfl; have y1 : w8.cell? ⟨w.heap.size + 1 + 1, 1, none⟩ = some _ := Q2.out.cell rfl; have y2 : w8.cell? ⟨w.heap.size + 1 + 1, 2, none⟩ = some _ := Q2.out.cell rfl; have y3 : w8.cell? ⟨w.heap.size + 1 + 1, 3, none⟩ = some _ := Q2.out.cell rfl; have l2 := Q2.out.lt; have f2 := Q2.out.fr; clear hg8 hat8 ho8 hr8 hne8))
            refine bodyPost_ret (results_cell_tmp_row Try.results59 _ _ (w.heap.size + 1 + 1) 27 _ _ rfl ((Q2.out.setne (by omega) _ _).set4 _ _ _ _) Try.underlying27 rfl (by kernel_rfl)) rfl ?_
            exact .ok HRR.out rfl ((QO.out.setC Q0.out _ _).set4 (Q2.out.setne (by omega) _ _) _ _ _ _) ((QK.out.setC (.inr (Nat.le_refl _)) _ _).set4 (.inr (by omega)) _ _ _ _)
        · have hr : r = (.nil, er) := by rw [HRA.out, if_pos her]
          have HRR := hide hr
          obtain ⟨ei, hei⟩ : ∃ ei : Int, ei = (er : Int) := ⟨_, rfl⟩
          have h0i : (ei == 0) = false := by rw [beq_eq_false_iff_ne]; omega
          have h0j : (ei != 0) = true := by simp only [bne, h0i]; rfl
          have HEI := hide hei
          rw [← hei]
          clear hei hr her HRA
          go_wp2
          refine bodyPost_ret (results_cell_tmp_row Try.results59 _ _ (w.heap.size + 1 + 1) 27 _ _ rfl (F2.out.set4 _ _ _ _) Try.underlying27 rfl (by kernel_rfl)) rfl ?_
          exact .no HRR.out (by rw [← HEI.out]; rfl) (FK.out.set4 (.inr (by omega)) _ _ _ _)
end Go.Proofs.Ytjpmfiicbokdcaa
