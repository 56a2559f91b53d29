/- The walk of treelabel.Assign, at a forest. -/
import Derived.Test.YtbpkclopcoaikaaGreatDoorMl
import Derived.Test.YtbpkclopcoaikaaGreatDoorMc
namespace Go.Proofs.YtbpkclopcoaikaaGreatDoor
open Go.RowKit
set_option linter.unusedVariables false
set_option linter.unusedSimpArgs false
theorem info_walker : (Tryz.prog.info? 61).map (fun i => (i.zero, i.size, i.bytes)) = some (some (.agg #[.slice none 0 0, .slice none 0 0, .int .i64 0, .int .i64 0]), 4, 64) := by kernel_rfl
theorem info_ints : (Tryz.prog.info? 27).map (fun i => (i.zero, i.size, i.bytes)) = some (some (.slice none 0 0), 1, 24) := by kernel_rfl
theorem info_label : (Tryz.prog.info? 43).map (fun i => (i.zero, i.size, i.bytes)) = some (some (.agg #[.int .i64 0, .int .i64 0, .int .i64 0]), 3, 24) := by kernel_rfl
def alc3 (n : Nat) : List Alc := [
  ⟨2, 24, .cells (List.replicate n (.slice none 0 0)).toArray 27 (0, 0), fun g => .slice (some ⟨g, 0, none⟩) n n⟩,
  ⟨5, 27, .cells (madeCells #[.int .i64 0, .int .i64 0, .int .i64 0] (n * 3)) 43 (0, 0), fun g => .slice (some ⟨g, 0, none⟩) n n⟩,
  ⟨7, 7, .cells #[.slice none 0 0, .slice none 0 0, .int .i64 0, .int .i64 0] 61 (0, 0), fun g => .pointer (some ⟨g, 0, none⟩)⟩]
/-- The objects of Assign, and what the walker is built of. -/
def GAs (W : World) (n : Nat) : (Nat → Bool) → (Nat → Value) → World → Prop := fun L tm w =>
  AlG W (alc3 n) L tm w ∧ (L 6 = true → L 2 = true ∧ L 5 = true ∧ tm 28 = .agg #[tm 24, tm 27, .int .i64 0, .int .i64 0])
theorem GAs.out {W : World} {n : Nat} {tm : Nat → Value} {w : World} (h : GAs W n (fun i => decide (i < 8)) tm w) : ∃ wb cb lb : Nat, tm 7 = .pointer (some ⟨wb, 0, none⟩) ∧ tm 24 = .slice (some ⟨cb, 0, none⟩) n n ∧ tm 27 = .slice (some ⟨lb, 0, none⟩) n n ∧ tm 28 = .agg #[.slice (some ⟨cb, 0, none⟩) n n, .slice (some ⟨lb, 0, none⟩) n n, .int .i64 0, .int .i64 0] ∧ Below W.heap.size W w ∧
    (W.heap.size ≤ wb ∧ W.heap.size ≤ cb ∧ W.heap.size ≤ lb) ∧ w.heap[wb]? = some (.cells #[.slice none 0 0, .slice none 0 0, .int .i64 0, .int .i64 0] 61 (0, 0)) ∧ w.heap[cb]? = some (.cells (List.replicate n (.slice none 0 0)).toArray 27 (0, 0)) ∧ w.heap[lb]? = some (.cells (madeCells #[.int .i64 0, .int .i64 0, .int .i64 0] (n * 3)) 43 (0, 0)) ∧ wb ≠ lb ∧ cb ≠ wb ∧ cb ≠ lb := by
  obtain ⟨⟨hb2, gs, h1, h2⟩, h6⟩ := h
  have m2 : (⟨2, 24, .cells (List.replicate n (.slice none 0 0)).toArray 27 (0, 0), fun g => .slice (some ⟨g, 0, none⟩) n n⟩ : Alc) ∈ alc3 n := by simp [alc3]
  have m5 : (⟨5, 27, .cells (madeCells #[.int .i64 0, .int .i64 0, .int .i64 0] (n * 3)) 43 (0, 0), fun g => .slice (some ⟨g, 0, none⟩) n n⟩ : Alc) ∈ alc3 n := by simp [alc3]
  have m7 : (⟨7, 7, .cells #[.slice none 0 0, .slice none 0 0, .int .i64 0, .int .i64 0] 61 (0, 0), fun g => .pointer (some ⟨g, 0, none⟩)⟩ : Alc) ∈ alc3 n := by simp [alc3]
  obtain ⟨e24, b24, o24⟩ := h1 _ m2 rfl
  obtain ⟨e27, b27, o27⟩ := h1 _ m5 rfl
  obtain ⟨e7, b7, o7⟩ := h1 _ m7 rfl
  obtain ⟨_, _, e28⟩ := h6 rfl
  have d1 := h2 _ m2 _ m5 (show (2 : Nat) ≠ 5 by decide) rfl rfl
  have d2 := h2 _ m2 _ m7 (show (2 : Nat) ≠ 7 by decide) rfl rfl
  have d3 := h2 _ m5 _ m7 (show (5 : Nat) ≠ 7 by decide) rfl rfl
  have f24 : tm 24 = .slice (some ⟨gs 2, 0, none⟩) n n := e24
  have f27 : tm 27 = .slice (some ⟨gs 5, 0, none⟩) n n := e27
  refine ⟨gs 7, gs 2, gs 5, e7, e24, e27, ?_, hb2, ⟨b7, b24, b27⟩, o7, o24, o27, fun e => d3 e.symm, d2, d1⟩
  rw [e28, f24, f27]
/-- The memory of Assign when the first k nodes are read. -/
structure ASt (base W cb lb n : Nat) (p : List Int) (k : Nat) (v : Nat → Value) (w0 w : World) : Prop where
  hw : w.heap[W]? = some (.cells #[.slice (some ⟨cb, 0, none⟩) n n, .slice (some ⟨lb, 0, none⟩) n n, .int .i64 0, .int .i64 0] 61 (0, 0))
  hc : w.heap[cb]? = some (.cells ((List.range n).map v).toArray 27 (0, 0))
  hl : w.heap[lb]? = some (.cells (madeCells #[.int .i64 0, .int .i64 0, .int .i64 0] (n * 3)) 43 (0, 0))
  fam : Fam base n (fun g => g = W ∨ g = cb ∨ g = lb) v (rowsTo p n k) w
  below : Below w0.heap.size w0 w
  ne : W ≠ lb ∧ cb ≠ W ∧ cb ≠ lb
  ge : base ≤ W ∧ base ≤ cb ∧ base ≤ lb
theorem ASt.start {W cb lb n : Nat} {p : List Int} {w0 w : World} {A B : Value} (hb : Below w0.heap.size w0 w) (hW : w.heap[W]? = some (.cells #[.slice none 0 0, .slice none 0 0, .int .i64 0, .int .i64 0] 61 (0, 0)))
    (hc : w.heap[cb]? = some (.cells (List.replicate n (.slice none 0 0)).toArray 27 (0, 0))) (hl : w.heap[lb]? = some (.cells (madeCells #[.int .i64 0, .int .i64 0, .int .i64 0] (n * 3)) 43 (0, 0)))
    (hne : W ≠ lb ∧ cb ≠ W ∧ cb ≠ lb) (hge : w0.heap.size ≤ W ∧ w0.heap.size ≤ cb ∧ w0.heap.size ≤ lb) :
    ASt w0.heap.size W cb lb n p 0 (fun _ => .slice none 0 0) w0 ((((w.setCell ⟨W, 0, none⟩ (.slice (some ⟨cb, 0, none⟩) n n)).setCell ⟨W, 1, none⟩ (.slice (some ⟨lb, 0, none⟩) n n)).setCell ⟨W, 2, none⟩ (.int .i64 0)).setCell ⟨W, 3, none⟩ (.int .i64 0)) := by
  refine ⟨?_, ?_, ?_, ⟨fun i hi => ?_, fun i j hi hj hij g h => by simp [Value.ownBlock] at h, fun i hi g h => by simp [Value.ownBlock] at h⟩, ?_, hne, hge⟩
  · simp [World.setCell, Array.getElem?_modify, hW]
  · rw [heap_setCell_other _ ⟨W, 3, none⟩ cb _ hne.2.1, heap_setCell_other _ ⟨W, 2, none⟩ cb _ hne.2.1, heap_setCell_other _ ⟨W, 1, none⟩ cb _ hne.2.1, heap_setCell_other _ ⟨W, 0, none⟩ cb _ hne.2.1, hc]
    congr 3
    rw [List.map_const', List.length_range]
  · rw [heap_setCell_other _ ⟨W, 3, none⟩ lb _ hne.1.symm, heap_setCell_other _ ⟨W, 2, none⟩ lb _ hne.1.symm, heap_setCell_other _ ⟨W, 1, none⟩ lb _ hne.1.symm, heap_setCell_other _ ⟨W, 0, none⟩ lb _ hne.1.symm, hl]
  · have e : rowsTo p n 0 i = [] := by unfold rowsTo; split <;> rfl
    rw [e]
    exact World.ownsRow_nil _ _ _ _
  · exact bl_set (bl_set (bl_set (bl_set hb (p := ⟨W, 0, none⟩) hge.1 _) (p := ⟨W, 1, none⟩) hge.1 _) (p := ⟨W, 2, none⟩) hge.1 _) (p := ⟨W, 3, none⟩) hge.1 _
theorem ASt.keep {base W cb lb n : Nat} {p : List Int} {k : Nat} {v : Nat → Value} {w0 w : World} (h : ASt base W cb lb n p k v w0 w) {i : Nat} (hi : i ≤ n) (o : Obj) {w' : World} (hg : (w.alloc o).grownBy w' (v i).ownBlock) :
    w'.heap[W]? = w.heap[W]? ∧ w'.heap[cb]? = w.heap[cb]? ∧ w'.heap[lb]? = w.heap[lb]? := by
  have key : ∀ g, (g = W ∨ g = cb ∨ g = lb) → g < w.heap.size → w'.heap[g]? = w.heap[g]? := fun g hb hl => by
    rw [hg.block g (by simp; omega) (fun e => h.fam.far i hi g e.symm hb), heap_alloc_old w o hl]
  exact ⟨key W (.inl rfl) (Array.getElem?_eq_some_iff.1 h.hw).1, key cb (.inr (.inl rfl)) (Array.getElem?_eq_some_iff.1 h.hc).1, key lb (.inr (.inr rfl)) (Array.getElem?_eq_some_iff.1 h.hl).1⟩
theorem ASt.bad {base W cb lb n : Nat} {p : List Int} {k : Nat} {v : Nat → Value} {w0 w : World} (h : ASt base W cb lb n p k v w0 w) (o : Obj) : ∀ g, (g = W ∨ g = cb ∨ g = lb) → g < (w.alloc o).heap.size := fun g hg => by
  have h1 := (Array.getElem?_eq_some_iff.1 h.hw).1
  have h2 := (Array.getElem?_eq_some_iff.1 h.hc).1
  have h3 := (Array.getElem?_eq_some_iff.1 h.hl).1
  simp
  rcases hg with rfl | rfl | rfl <;> omega
theorem ASt.neg {base W cb lb n : Nat} {p : List Int} {k : Nat} {v : Nat → Value} {w0 w : World} (h : ASt base W cb lb n p k v w0 w) (hbase : base = w0.heap.size) {x : Int} (hx : p[k]? = some x) (hx0 : x < 0) (o : Obj) {w' : World} {v' : Value}
    (hf : Fam base n (fun g => g = W ∨ g = cb ∨ g = lb) (fun j => if j = n then v' else v j) (fun j => if j = n then rowsTo p n k j ++ [(k : Int)] else rowsTo p n k j) w') (hg : (w.alloc o).grownBy w' (v n).ownBlock) :
    ASt base W cb lb n p (k + 1) (fun j => if j = n then v' else v j) w0 w' := by
  obtain ⟨k1, k2, k3⟩ := h.keep (Nat.le_refl n) o hg
  refine ⟨k1.trans h.hw, ?_, k3.trans h.hl, ?_, ?_, h.ne, h.ge⟩
  · rw [k2, h.hc]
    congr 3
    apply List.map_congr_left
    intro j hj
    have := List.mem_range.1 hj
    rw [if_neg (by omega)]
  · rw [rowsTo_neg hx hx0]; exact hf
  · exact bl_grown (bl_alloc h.below o) hg (fun g e => by rw [← hbase]; exact ((h.fam.own n (Nat.le_refl n)).lt g e).1)
theorem ASt.drew {base W cb lb n : Nat} {p : List Int} {k : Nat} {v : Nat → Value} {w0 w : World} (h : ASt base W cb lb n p k v w0 w) : ASt base W cb lb n p k v w0 w.drew :=
  ⟨h.hw, h.hc, h.hl, ⟨h.fam.own, h.fam.apart, h.fam.far⟩, bl_drew h.below, h.ne, h.ge⟩
theorem ASt.pos {base W cb lb n : Nat} {p : List Int} {k : Nat} {v : Nat → Value} {w0 w : World} (h : ASt base W cb lb n p k v w0 w) (hbase : base = w0.heap.size) {i : Nat} (hx : p[k]? = some (i : Int)) (hi : i < n) (o : Obj) {w' : World} {v' : Value}
    (hf : Fam base n (fun g => g = W ∨ g = cb ∨ g = lb) (fun j => if j = i then v' else v j) (fun j => if j = i then rowsTo p n k j ++ [(k : Int)] else rowsTo p n k j) w') (hg : (w.alloc o).grownBy w' (v i).ownBlock) :
    ASt base W cb lb n p (k + 1) (fun j => if j = i then v' else v j) w0 (w'.setCell ⟨cb, i, none⟩ v') := by
  obtain ⟨k1, k2, k3⟩ := h.keep (Nat.le_of_lt hi) o hg
  have hbl : Below w0.heap.size w0 w' := bl_grown (bl_alloc h.below o) hg (fun g e => by rw [← hbase]; exact ((h.fam.own i (Nat.le_of_lt hi)).lt g e).1)
  refine ⟨?_, ?_, ?_, ?_, ?_, h.ne, h.ge⟩
  · rw [heap_setCell_other w' ⟨cb, i, none⟩ W _ (Ne.symm h.ne.2.1)]; exact k1.trans h.hw
  · have h1 := k2.trans h.hc
    simp only [World.setCell, Array.getElem?_modify, h1, if_pos, Option.map_some, Option.isSome_none, Bool.false_eq_true, if_false]
    congr 2
    apply Array.ext'
    simp only [Array.toList_setIfInBounds]
    apply List.ext_getElem?
    intro j
    rw [List.getElem?_set]
    by_cases e : i = j
    · subst e
      rw [if_pos rfl, if_pos (by simpa using hi)]
      simp [hi]
    · rw [if_neg e]
      simp only [List.getElem?_map]
      rcases Nat.lt_or_ge j n with hj | hj
      · simp [List.getElem?_range hj, Ne.symm e]
      · simp [List.getElem?_eq_none, hj]
  · rw [heap_setCell_other w' ⟨cb, i, none⟩ lb _ (Ne.symm h.ne.2.2)]; exact k3.trans h.hl
  · rw [rowsTo_pos hx hi]
    exact hf.grown (grown_set w' cb i v') (fun g e => by injection e with e; exact .inr (.inl e.symm))
  · exact bl_set hbl (p := ⟨cb, i, none⟩) (by rw [← hbase]; exact h.ge.2.1) v'
theorem made3 (n : Nat) : madeCells #[.int .i64 0, .int .i64 0, .int .i64 0] (n * 3) = ((List.replicate (3 * n) (0 : Int)).map iv).toArray := by
  apply Array.ext
  · simp [madeCells]; omega
  · intro i h1 h2
    have h3 : i % 3 < 3 := Nat.mod_lt _ (by omega)
    simp [madeCells, iv]
    rcases (show i % 3 = 0 ∨ i % 3 = 1 ∨ i % 3 = 2 by omega) with h | h | h <;> simp [h]
theorem ASt.vst {base W cb lb n : Nat} {p : List Int} {v : Nat → Value} {w0 w : World} (h : ASt base W cb lb n p n v w0 w) (hn : n = p.length) : VSt W cb lb n p (List.replicate (3 * n) 0) 0 0 w := by
  refine ⟨h.hw, ?_, by simp, fun i hi => ?_, h.ne⟩
  · rw [h.hl, made3]
  · have ho := h.fam.own i (Nat.le_of_lt hi)
    have e : rowsTo p n n i = nats (chil p i) := by
      unfold rowsTo
      rw [if_neg (by omega), hn, chilTo_all]
    rw [e] at ho
    obtain ⟨a, c, hv, _, _, hI⟩ := own_isI ho rfl
    refine ⟨a, _, c, ?_, hI, fun x hx => ?_⟩
    · rw [cell_of_row w cb i _ _ _ h.hc]
      simp [hi, hv]
    · have hf := h.fam.far i (Nat.le_of_lt hi) x.block (by rw [hv, hx]; rfl)
      exact ⟨fun e => hf (.inl e), fun e => hf (.inr (.inr e))⟩
theorem Forest.root_r {p : List Int} {r : Nat → Nat} (h : Forest p r) {q : Nat} (hq : q ∈ rootsF p) : r q = 0 := by
  obtain ⟨x, hx, h0⟩ := mem_roots.1 hq
  exact h.root _ _ hx h0
theorem VT.below {W lb base : Nat} {w0 w w' : World} (h : VT W lb w w') (hb : Below base w0 w) (h1 : base ≤ W) (h2 : base ≤ lb) : Below base w0 w' := by
  exact ⟨h.os.trans hb.os, h.tape.trans hb.tape, h.output.trans hb.output, by rw [h.size]; exact hb.size, fun k hk => (h.block k (by omega) (by omega)).trans (hb.block k hk)⟩
/-- The labels of a forest, three cells each. -/
def labs (p : List Int) (r : Nat → Nat) : List Int := (List.range p.length).flatMap fun k => [(preN p r k : Int), (postN p r k : Int), (r k : Int)]
theorem flat3_get (f : Nat → Int × Int × Int) : ∀ (n k : Nat), k < n → ((List.range n).flatMap fun k => [(f k).1, (f k).2.1, (f k).2.2])[k * 3 + 0]? = some (f k).1 ∧ ((List.range n).flatMap fun k => [(f k).1, (f k).2.1, (f k).2.2])[k * 3 + 1]? = some (f k).2.1 ∧ ((List.range n).flatMap fun k => [(f k).1, (f k).2.1, (f k).2.2])[k * 3 + 2]? = some (f k).2.2
  | 0, k, h => absurd h (by omega)
  | n + 1, k, h => by
    have hl : ∀ m : Nat, ((List.range m).flatMap fun k => [(f k).1, (f k).2.1, (f k).2.2]).length = m * 3 := by
      intro m
      induction m with
      | zero => simp
      | succ m ih => rw [List.range_succ, List.flatMap_append, List.length_append, ih]; simp; omega
    rw [List.range_succ, List.flatMap_append]
    by_cases e : k = n
    · subst e
      refine ⟨?_, ?_, ?_⟩ <;> rw [List.getElem?_append_right (by rw [hl]; omega), hl] <;> simp
    · have ih := flat3_get f n k (by omega)
      refine ⟨?_, ?_, ?_⟩ <;> rw [List.getElem?_append_left (by rw [hl]; omega)]
      · exact ih.1
      · exact ih.2.1
      · exact ih.2.2
theorem flat3_len (f : Nat → Int × Int × Int) (m : Nat) : ((List.range m).flatMap fun k => [(f k).1, (f k).2.1, (f k).2.2]).length = 3 * m := by
  induction m with
  | zero => simp
  | succ m ih => rw [List.range_succ, List.flatMap_append, List.length_append, ih]; simp; omega
theorem labs_len (p : List Int) (r : Nat → Nat) : (labs p r).length = 3 * p.length := flat3_len (fun k => ((preN p r k : Int), (postN p r k : Int), (r k : Int))) p.length
theorem labs_get {p : List Int} {r : Nat → Nat} {k : Nat} (h : k < p.length) : Fin3 p r (labs p r) k := flat3_get (fun k => ((preN p r k : Int), (postN p r k : Int), (r k : Int))) p.length k h
theorem labs_of {p : List Int} {r : Nat → Nat} {n : Nat} {Lc : List Int} (hF : Forest p r) (hn : n = p.length) (hl : Lc.length = 3 * n) (h : ∀ q, q < p.length → Fin3 p r Lc q) : Lc = labs p r := by
  apply List.ext_getElem?
  intro i
  rcases Nat.lt_or_ge i (3 * n) with hi | hi
  · have hq : i / 3 < p.length := by omega
    obtain ⟨a0, a1, a2⟩ := h _ hq
    obtain ⟨b0, b1, b2⟩ := labs_get (r := r) hq
    have h3 : i % 3 < 3 := Nat.mod_lt _ (by omega)
    rcases (show i % 3 = 0 ∨ i % 3 = 1 ∨ i % 3 = 2 by omega) with e | e | e
    · have : i = i / 3 * 3 + 0 := by omega
      rw [this, a0, b0]
    · have : i = i / 3 * 3 + 1 := by omega
      rw [this, a1, b1]
    · have : i = i / 3 * 3 + 2 := by omega
      rw [this, a2, b2]
  · rw [List.getElem?_eq_none (by omega), List.getElem?_eq_none (by rw [labs_len]; omega)]
set_option maxHeartbeats 2000000 in
set_option maxRecDepth 100000 in
theorem assign_any (a : Option Addr) (n cap : Nat) (p : List Int) (r : Nat → Nat) (w : World) (h : IsI w a n p) (hc : n ≤ cap) (hcm : cap ≤ maxLen) (hm : n ≤ 4096) (hF : Forest p r) (hR : ∀ i, i < n → r i ≤ 4096) :
    Calls Tryz.prog 7 #[.slice a n cap] w fun e w' => ∃ lb, e = .returned (.tuple #[.slice (some ⟨lb, 0, none⟩) n n, .int .i64 0, .int .i64 0]) ∧ Below w.heap.size w w' ∧ w.heap.size ≤ lb ∧ w'.heap[lb]? = some (.cells ((labs p r).map iv).toArray 43 (0, 0)) := by
  have HI := hide h
  have HN := hide h.1
  have HF := hide hF
  have HRR := hide hR
  clear h hF hR
  go_enter Tryz.func7, Tryz.ntmps7
  go_wp2_with fail
  refine (tcheck_any a n cap p r w HI.out hc hcm hm HF.out).mono ?_
  rintro e w1 ⟨rfl, hb1⟩
  have HB1 := hide hb1
  clear hb1
  obtain ⟨i1, hi1, hz10, hz11, hz12⟩ := info_parts info_walker
  obtain ⟨i2, hi2, hz20, hz21, hz22⟩ := info_parts info_ints
  obtain ⟨i3, hi3, hz30, hz31, hz32⟩ := info_parts info_label
  have hmk2 : ∀ (W : World), (Instr.makeSlice 59 (.int .i64 (n : Int)) (.int .i64 (n : Int))).run Tryz.prog W = .ok (.slice (some ⟨W.heap.size, 0, none⟩) n n) (W.alloc (.cells (List.replicate n (.slice none 0 0)).toArray 27)) := by
    intro W
    rw [run_make_nc (P := Tryz.prog) 59 27 i2 _ Tryz.underlying59 hi2 hz20 .i64 .i64 n n (Nat.le_refl _) (by rw [hz22]; omega) (by omega) W, hz21, Nat.mul_one]
    have e : madeCells (Value.slice none 0 0).cells n = (List.replicate n (.slice none 0 0)).toArray := made_arr (.slice none 0 0) n
    rw [e]
  have hmk3 : ∀ (W : World), (Instr.makeSlice 34 (.int .i64 (n : Int)) (.int .i64 (n : Int))).run Tryz.prog W = .ok (.slice (some ⟨W.heap.size, 0, none⟩) n n) (W.alloc (.cells (madeCells #[.int .i64 0, .int .i64 0, .int .i64 0] (n * 3)) 43)) := by
    intro W
    rw [run_make_nc (P := Tryz.prog) 34 43 i3 _ Tryz.underlying34 hi3 hz30 .i64 .i64 n n (Nat.le_refl _) (by rw [hz32]; omega) (by omega) W, hz31]
    rfl
  go_wp2_with fail
  refine wp_region_V 8 (GAs w1 n) (fun _ _ _ => True) (by kernel_rfl) (by kernel_rfl) (by kernel_rfl) ⟨AlG.start (bl_drew (bl_refl w1)), fun h => absurd h (by simp)⟩ (fun Q HQ => ?_)
  simp only [List.take_succ_cons, List.take_zero, List.map_cons, List.map_nil]
  repeat
    first | apply wpV_c rfl | apply wpV_gc rfl (guard_mk rfl rfl)
    focus
      intro L tm ev wx hG hL hM hT hx
      clear hT
      (try simp [Op.operands, Call.operands, opndS, Slot.holds] at hx)
      go_simp
      exact ⟨⟨hG.1.other _ rfl, fun h => hG.2 h⟩, trivial, rfl⟩
      done
    dsimp only [setS, List.set]
  refine wpV_p (R := fun _ _ => True) rfl (fun _ _ _ _ _ _ _ _ => trivial) ?_ ?_
  focus
    intro L tm ev wx hG hL hM hT hx
    clear hT
    (try simp [Op.operands, Call.operands, opndS, Slot.holds] at hx)
    have hmn := hmk2 wx
    have hal := hG.1.alloc ⟨2, 24, .cells (List.replicate n (.slice none 0 0)).toArray 27 (0, 0), fun g => .slice (some ⟨g, 0, none⟩) n n⟩ (by simp [alc3]) rfl (by intro s hs; simp [alc3] at hs; rcases hs with rfl | rfl | rfl <;> simp)
    go_simp
    exact ⟨⟨hal, fun h => absurd (hG.2 h).1 (by rw [hL]; simp)⟩, trivial, trivial⟩
  dsimp only [setS, List.set]
  repeat
    first | apply wpV_c rfl | apply wpV_gc rfl (guard_mk rfl rfl)
    focus
      intro L tm ev wx hG hL hM hT hx
      clear hT
      (try simp [Op.operands, Call.operands, opndS, Slot.holds] at hx)
      go_simp
      exact ⟨⟨hG.1.other _ rfl, fun h => hG.2 h⟩, trivial, rfl⟩
      done
    dsimp only [setS, List.set]
  refine wpV_p (R := fun _ _ => True) rfl (fun _ _ _ _ _ _ _ _ => trivial) ?_ ?_
  focus
    intro L tm ev wx hG hL hM hT hx
    clear hT
    (try simp [Op.operands, Call.operands, opndS, Slot.holds] at hx)
    have hmn := hmk3 wx
    have hal := hG.1.alloc ⟨5, 27, .cells (madeCells #[.int .i64 0, .int .i64 0, .int .i64 0] (n * 3)) 43 (0, 0), fun g => .slice (some ⟨g, 0, none⟩) n n⟩ (by simp [alc3]) rfl (by intro s hs; simp [alc3] at hs; rcases hs with rfl | rfl | rfl <;> simp)
    go_simp
    exact ⟨⟨hal, fun h => absurd (hG.2 h).2.1 (by rw [hL]; simp)⟩, trivial, trivial⟩
  dsimp only [setS, List.set]
  refine wpV_p (R := fun _ _ => True) rfl (fun _ _ _ _ _ _ _ _ => trivial) ?_ ?_
  focus
    intro L tm ev wx hG hL hM hT hx
    clear hx
    have u2 := hM 2 (by decide) (by kernel_rfl)
    have u5 := hM 5 (by decide) (by kernel_rfl)
    obtain ⟨g2, e24⟩ : ∃ g, tm 24 = .slice (some ⟨g, 0, none⟩) n n := by
      obtain ⟨_, gs, h1, _⟩ := hG.1
      exact ⟨gs 2, (h1 ⟨2, 24, .cells (List.replicate n (.slice none 0 0)).toArray 27 (0, 0), fun g => .slice (some ⟨g, 0, none⟩) n n⟩ (by simp [alc3]) u2).1⟩
    obtain ⟨g5, e27⟩ : ∃ g, tm 27 = .slice (some ⟨g, 0, none⟩) n n := by
      obtain ⟨_, gs, h1, _⟩ := hG.1
      exact ⟨gs 5, (h1 ⟨5, 27, .cells (madeCells #[.int .i64 0, .int .i64 0, .int .i64 0] (n * 3)) 43 (0, 0), fun g => .slice (some ⟨g, 0, none⟩) n n⟩ (by simp [alc3]) u5).1⟩
    have h24 := (hT 24).trans e24
    have h27 := (hT 27).trans e27
    have E24 := hide e24
    have E27 := hide e27
    clear hT e24 e27
    go_simp
    exact ⟨⟨hG.1.other _ rfl, fun h => ⟨u2, u5, by
      show _ = Value.agg #[tm 24, tm 27, .int .i64 0, .int .i64 0]
      rw [E24.out, E27.out]
      rfl⟩⟩, trivial, trivial⟩
  dsimp only [setS, List.set]
  refine wpV_p (R := fun _ _ => True) rfl (fun _ _ _ _ _ _ _ _ => trivial) ?_ ?_
  focus
    intro L tm ev wx hG hL hM hT hx
    clear hx hT
    have hal := hG.1.alloc ⟨7, 7, .cells #[.slice none 0 0, .slice none 0 0, .int .i64 0, .int .i64 0] 61 (0, 0), fun g => .pointer (some ⟨g, 0, none⟩)⟩ (by simp [alc3]) rfl (by intro s hs; simp [alc3] at hs; rcases hs with rfl | rfl | rfl <;> simp)
    go_simp
    exact ⟨⟨hal, fun h => hG.2 h⟩, trivial, trivial⟩
  dsimp only [setS, List.set]
  refine wpV_nil (HQ _ fun w2 => ?_)
  simp only [closeS, List.drop_succ_cons, List.drop_zero]
  intro v7 _ v24 _ v27 _ v28 _ hG
  obtain ⟨W, cb, lb, e7, e24, e27, e28, hb2, ⟨bW, bc, bl⟩, oW, oc, ol, n1, n2, n3⟩ := hG.out
  have f7 : v7 = .pointer (some ⟨W, 0, none⟩) := e7
  have f24 : v24 = .slice (some ⟨cb, 0, none⟩) n n := e24
  have f27 : v27 = .slice (some ⟨lb, 0, none⟩) n n := e27
  have f28 : v28 = .agg #[.slice (some ⟨cb, 0, none⟩) n n, .slice (some ⟨lb, 0, none⟩) n n, .int .i64 0, .int .i64 0] := e28
  clear e7 e24 e27 e28 hG
  subst f7 f24 f27 f28
  clear HQ hmk2 hmk3
  have HB2 := hide hb2
  have OW := hide oW
  have OC := hide oc
  have OL := hide ol
  have fW0 : w2.frozen? ⟨W, 0, none⟩ = false := by simp [World.frozen?, oW]
  have fW1 : w2.frozen? ⟨W, 1, none⟩ = false := by simp [World.frozen?, oW]
  have fW2 : w2.frozen? ⟨W, 2, none⟩ = false := by simp [World.frozen?, oW]
  have fW3 : w2.frozen? ⟨W, 3, none⟩ = false := by simp [World.frozen?, oW]
  have cW0 := cell_of_row w2 W 0 _ _ _ oW
  have cW1 := cell_of_row w2 W 1 _ _ _ oW
  have cW2 := cell_of_row w2 W 2 _ _ _ oW
  have cW3 := cell_of_row w2 W 3 _ _ _ oW
  simp only [List.getElem?_toArray, List.getElem?_cons_zero, List.getElem?_cons_succ] at cW0 cW1 cW2 cW3
  clear hb2 oW oc ol
  have HB3 := hide (HB1.out.trans (HB2.out.mono HB1.out.size))
  have HST := hide (ASt.start (p := p) (n := n) (A := undef) (B := undef) HB3.out OW.out OC.out OL.out ⟨n1, n2, n3⟩ ⟨Nat.le_trans HB1.out.size bW, Nat.le_trans HB1.out.size bc, Nat.le_trans HB1.out.size bl⟩)
  go_wp2_with fail
  go_loopw [8, 31] (fun rv kv wr => ∃ (k : Nat) (v : Nat → Value), kv = .int .i64 (k : Int) ∧ rv = v n ∧ k ≤ n ∧ Hid (ASt w.heap.size W cb lb n p k v w wr)) (fun _ kv _ => n - (intOf kv).toNat)
  case atStart => exact ⟨0, fun _ => .slice none 0 0, rfl, rfl, Nat.zero_le _, HST⟩
  case round =>
    obtain ⟨k, v, rfl, rfl, hk, HS⟩ := hrel
    by_cases hkn : k < n
    · have hki : (k : Int) < (n : Int) := by omega
      have HIr := hide (HI.out.below HS.out.below)
      obtain ⟨b, o, x, rfl, hbl, hx, e0⟩ := HIr.out.at_ hkn
      have HX := hide hx
      have hrg := HF.out.rng k x hx
      rw [← HN.out] at hrg
      clear hx
      by_cases hx0 : x < 0
      · have hf1 : Fam w.heap.size n (fun g => g = W ∨ g = cb ∨ g = lb) v (rowsTo p n k) (wr.alloc (.cells #[.int .i64 (k : Int)] 3)) := HS.out.fam.grown (World.grownBy_alloc wr _ none) (fun g h => by cases h)
        have hlen : (rowsTo p n k n).length ≤ 100000 := by
          unfold rowsTo
          rw [if_pos rfl]
          have h1 : (rootsTo p k).length ≤ (List.range k).length := List.length_filter_le _ _
          rw [List.length_range] at h1
          simp [nats]
          omega
        have hr1 := rd_lit wr #[.int .i64 (k : Int)] 3 (0, 0)
        have HF1 := hide hf1
        have HR1 := hide hr1
        have hbs : w.heap.size ≤ (wr.alloc (.cells #[.int .i64 (k : Int)] 3)).heap.size := Nat.le_trans HS.out.below.size (by simp)
        have HBS := hide hbs
        have HLN := hide hlen
        clear hf1 hr1 hbs hlen
        go_wp2_with (at_builtin; go_loud (refine wpList_append_fam rfl (.tmp 38) (.tmp 40) 27 rfl Tryz.underlying27 w.heap.size n _ v (rowsTo p n k) HF1.out n (Nat.le_refl n) (HS.out.bad _) rfl (some ⟨wr.heap.size, 0, none⟩) 1 (k : Int) rfl HR1.out HLN.out HBS.out ?_); intro v' w' hf' hg'; have HS' := hide (HS.out.neg rfl HX.out hx0 _ hf' hg'); clear hf' hg')
        go_roundw
        case rel => exact ⟨k + 1, fun j => if j = n then v' else v j, by go_num, by simp, by omega, HS'⟩
        case measure => simp [intOf]; omega
      · obtain ⟨i, rfl⟩ := Int.eq_ofNat_of_zero_le (show 0 ≤ x by omega)
        have hin : i < n := by omega
        have HD := hide HS.out.drew
        have hf1 : Fam w.heap.size n (fun g => g = W ∨ g = cb ∨ g = lb) v (rowsTo p n k) (wr.drew.alloc (.cells #[.int .i64 (k : Int)] 3)) := HD.out.fam.grown (World.grownBy_alloc wr.drew _ none) (fun g h => by cases h)
        have hlen : (rowsTo p n k i).length ≤ 100000 := by
          unfold rowsTo
          rw [if_neg (by omega)]
          have h1 : (chilTo p k i).length ≤ (List.range k).length := List.length_filter_le _ _
          rw [List.length_range] at h1
          simp [nats]
          omega
        obtain ⟨ai, mi, ci, v', WA, hvi, hrun, hf', hg'⟩ := run_append_fam 27 27 Tryz.underlying27 w.heap.size n _ v (rowsTo p n k) hf1 i (Nat.le_of_lt hin) (HD.out.bad _) (some ⟨wr.drew.heap.size, 0, none⟩) 1 (k : Int) (rd_lit wr.drew #[.int .i64 (k : Int)] 3 (0, 0)) hlen (Nat.le_trans HD.out.below.size (by simp))
        obtain ⟨av, mv, cv, hv'⟩ : ∃ a m c, v' = .slice a m c := by
          have h := hf'.own i (Nat.le_of_lt hin)
          simp only [if_true] at h
          obtain ⟨_, a, c, e, _⟩ := own_form h
          exact ⟨a, _, c, e⟩
        subst hv'
        have HS' := hide (HD.out.pos rfl HX.out hin _ hf' hg')
        have HK3 := hide (HD.out.keep (Nat.le_of_lt hin) _ hg')
        have HRUN := hide hrun
        clear hf1 hlen hf' hg' hrun
        go_wp2_with fail
        refine wp_region_G 11 (GAp 9 10 wr.drew (wr.drew.alloc (.cells #[.int .i64 (k : Int)] 3)) WA) (by kernel_rfl) (by kernel_rfl) GAp.start (fun Q HQ => ?_)
        simp only [List.take_succ_cons, List.take_zero, List.map_cons, List.map_nil]
        have HC := hide (show ∀ wx, (wx = wr.drew ∨ wx = wr.drew.alloc (.cells #[.int .i64 (k : Int)] 3) ∨ wx = WA) → wx.cell? ⟨W, 0, none⟩ = some (.slice (some ⟨cb, 0, none⟩) n n) ∧ wx.cell? ⟨cb, i, none⟩ = some (.slice ai mi ci) by
          intro wx hwx
          have key : wx.heap[W]? = wr.heap[W]? ∧ wx.heap[cb]? = wr.heap[cb]? := by
            rcases hwx with rfl | rfl | rfl
            · exact ⟨rfl, rfl⟩
            · exact ⟨heap_alloc_old wr.drew _ (Array.getElem?_eq_some_iff.1 HD.out.hw).1, heap_alloc_old wr.drew _ (Array.getElem?_eq_some_iff.1 HD.out.hc).1⟩
            · exact ⟨HK3.out.1, HK3.out.2.1⟩
          refine ⟨cell_of_row wx W 0 _ _ _ (key.1.trans HS.out.hw), ?_⟩
          rw [cell_of_row wx cb i _ _ _ (key.2.trans HS.out.hc)]
          simp [hin, hvi])
        repeat
          first | apply wpG_c rfl | apply wpG_gc rfl (guard_mk rfl rfl)
          focus
            intro L ev wx hG hL hM hx
            (try simp [Op.operands, Call.operands, opndS, Slot.holds] at hx)
            obtain ⟨k0, k1⟩ := HC.out wx hG.or; have hGi := fun (i : Nat) (h : i ≠ 9) (h' : i ≠ 10) => GAp.same hG h h'
            go_simp
            try (first | exact ⟨hG, rfl⟩ | (exact ⟨hGi _ (by decide) (by decide), rfl⟩))
            done
          dsimp only [setS, List.set]
        apply wpG_c rfl
        focus
          intro L ev wx hG hL hM hx
          obtain ⟨hA, hG1⟩ := hG.one (by decide) hL
          subst hA
          (try simp [Op.operands, Call.operands, opndS, Slot.holds] at hx)
          go_simp
          exact ⟨hG1, rfl⟩
        dsimp only [setS, List.set]
        apply wpG_c rfl
        focus
          intro L ev wx hG hL hM hx
          obtain ⟨hB, hG2⟩ := hG.two (by decide) (hM 9 (by decide) (by kernel_rfl)) hL
          subst hB
          (try simp [Op.operands, Call.operands, opndS, Slot.holds] at hx)
          have hrun : (Builtin.append_ #[27, 27] 27 #[.slice ai mi ci, .slice (some ⟨wr.heap.size, 0, none⟩) 1 1]).run Tryz.prog (wr.drew.alloc (.cells #[.int .i64 (k : Int)] 3)) = .ok (.slice av mv cv) WA := HRUN.out
          unfold execOp
          simp only [resolve, invoke, builtin, Sem.run_bind, Sem.run_pure, Result.andThen_ok, List.map_toArray, List.map_cons, List.map_nil, hx, hrun]
          exact ⟨hG2, rfl⟩
        dsimp only [setS, List.set]
        refine wpG_nil (HQ _ fun w5 hG5 => ?_)
        have hG5' : w5 = WA := (hG5.2.1 rfl).2
        subst hG5'
        simp only [closeS, List.drop_succ_cons, List.drop_zero]
        have c5 := (HC.out w5 (.inr (.inr rfl))).2
        have f5 : w5.frozen? ⟨cb, i, none⟩ = false := by
          have := HK3.out.2.1.trans HD.out.hc
          simp [World.frozen?, this]
        clear HQ hG5
        go_wp2
        go_roundw
        case rel => exact ⟨k + 1, fun j => if j = i then .slice av mv cv else v j, by go_num, (if_neg (show ¬ n = i by omega)).symm, by omega, HS'⟩
        case measure => simp [intOf]; omega
    · obtain rfl : k = n := by omega
      clear hkn
      have ho := HS.out.fam.own k (Nat.le_refl k)
      rw [show rowsTo p k k k = nats (rootsF p) by unfold rowsTo; rw [if_pos rfl, show k = p.length from HN.out, rootsTo_all]] at ho
      obtain ⟨ar, cr, hvr, hcr, hcrm, hIR⟩ := own_isI ho rfl
      have HIR := hide hIR
      have HVR := hide hvr
      have hfar := HS.out.fam.far k (Nat.le_refl k)
      rw [hvr] at hfar ⊢
      have HFAR := hide hfar
      clear ho hIR hvr hfar
      have HV0 := hide (HS.out.vst HN.out)
      obtain ⟨m, hm1⟩ : ∃ m, m = (nats (rootsF p)).length := ⟨_, rfl⟩
      rw [← hm1] at HIR hcr ⊢
      have hmr : m = (rootsF p).length := by rw [hm1]; simp [nats]
      have HM := hide hmr
      have hmm : m ≤ 4096 := by
        have h1 : (rootsF p).length ≤ (List.range p.length).length := List.length_filter_le _ _
        rw [List.length_range, ← HN.out] at h1
        omega
      clear hm1 hmr
      obtain ⟨f, hf⟩ : ∃ f, f = fuelF p r := ⟨_, rfl⟩
      have HFF := hide hf
      clear hf
      obtain ⟨w7, hw7⟩ : ∃ w7, w7 = wr := ⟨_, rfl⟩
      rw [← hw7] at HIR HV0 HS ⊢
      clear hw7
      go_wp2_with fail
      go_loopw [57] (fun jv wx => ∃ (j : Nat) (Lj : List Int), jv = .int .i64 (j : Int) ∧ j ≤ m ∧ Hid (VSt W cb lb k p Lj (((rootsF p).take j).flatMap (preL p f)).length (((rootsF p).take j).flatMap (postL p f)).length wx) ∧ Hid (VT W lb w7 wx) ∧ Hid (∀ q ∈ ((rootsF p).take j).flatMap (preL p f), Fin3 p r Lj q)) (fun jv _ => m - (intOf jv).toNat)
      case atStart => exact ⟨0, _, rfl, Nat.zero_le _, HV0, hide (VT.refl _ _ _), hide (fun q hq => by simp at hq)⟩
      case round =>
        obtain ⟨j, Lj, rfl, hj, HVj, HTj, HFj⟩ := hrel
        by_cases hjm : j < m
        · have hji : (j : Int) < (m : Int) := by omega
          have HIx : Hid (IsI wr ar m (nats (rootsF p))) := hide ⟨HIR.out.1, HIR.out.2.vt HTj.out (fun x hx => by
            have := HFAR.out x.block (by rw [hx]; rfl)
            exact ⟨fun e => this (.inl e), fun e => this (.inr (.inr e))⟩)⟩
          obtain ⟨bk, o, x, rfl, hbl, hx, e0⟩ := HIx.out.at_ hjm
          obtain ⟨q, hq, rfl⟩ : ∃ q, (rootsF p)[j]? = some q ∧ (q : Int) = x := by
            unfold nats at hx
            rw [List.getElem?_map] at hx
            obtain ⟨k, h1, h2⟩ := Option.map_eq_some_iff.1 hx
            exact ⟨k, h1, h2⟩
          have HRo := hide (List.mem_of_getElem? hq)
          have hqr : r q = 0 := HF.out.root_r HRo.out
          have hqn : q < k := by rw [HN.out]; exact roots_ltn HRo.out
          have HQ := hide hq
          have HS1 := hide (split_at hq (preL p f))
          have HS2 := hide (split_at hq (postL p f))
          clear hx hq
          go_wp2_with fail
          have hvis := visit_any W cb lb k p r HF.out HN.out hm HRR.out f q (((rootsF p).take j).flatMap (preL p f)) (((rootsF p).drop (j + 1)).flatMap (preL p f)) (((rootsF p).take j).flatMap (postL p f)) (((rootsF p).drop (j + 1)).flatMap (postL p f)) Lj wr (by rw [HFF.out]; exact roots_ok HF.out q HRo.out) hqn (by rw [← HFF.out]; exact HS1.out.1) (by rw [← HFF.out]; exact HS2.out.1) HVj.out
          rw [show ((r q : Nat) : Int) = 0 by rw [hqr]; rfl] at hvis
          refine hvis.mono ?_
          clear hvis
          rintro e w4 ⟨rfl, Lk, hvk, htk, hfk, hok⟩
          have HVk : Hid (VSt W cb lb k p Lk (((rootsF p).take (j + 1)).flatMap (preL p f)).length (((rootsF p).take (j + 1)).flatMap (postL p f)).length w4) := hide (by
            rw [HS1.out.2, HS2.out.2, List.length_append, List.length_append]
            exact hvk)
          have HTk := hide (HTj.out.trans htk)
          have HFk : Hid (∀ t ∈ ((rootsF p).take (j + 1)).flatMap (preL p f), Fin3 p r Lk t) := hide (by
            rw [HS1.out.2]
            intro t ht
            by_cases hqk : t ∈ preL p f q
            · exact hfk t hqk
            · rcases List.mem_append.1 ht with h | h
              · have h0 := HFj.out t h
                refine ⟨?_, ?_, ?_⟩
                · rw [← h0.1]; exact hok t 0 (by omega) hqk
                · rw [← h0.2.1]; exact hok t 1 (by omega) hqk
                · rw [← h0.2.2]; exact hok t 2 (by omega) hqk
              · exact absurd h hqk)
          clear hvk htk hfk hok hqr
          have HJ := hide hjm
          go_wp2
          go_roundw
          case rel => exact ⟨j + 1, Lk, by go_num, HJ.out, HVk, HTk, HFk⟩
          case measure => have := HJ.out; simp [intOf]; omega
        · obtain rfl : j = m := by omega
          rw [show (rootsF p).take j = rootsF p by rw [HM.out]; exact List.take_length] at HFj
          have HLB := hide (labs_of HF.out HN.out (by rw [← HVj.out.len]) (fun q hq => HFj.out q (by
            have := (mem_PRE HF.out (roots_ok HF.out) q).2 hq
            unfold PRE at this
            rw [← HFF.out] at this
            exact this)))
          obtain ⟨c0, c1, c2, c3⟩ := HVj.out.cells
          have HBE := hide (HTj.out.below HS.out.below HS.out.ge.1 HS.out.ge.2.2)
          have HLR := hide HVj.out.hl
          clear hjm c0 c2 c3
          go_wp2_with fail
          go_ret3
          refine ⟨lb, rfl, HBE.out, HS.out.ge.2.2, ?_⟩
          rw [← HLB.out]
          exact HLR.out
end Go.Proofs.YtbpkclopcoaikaaGreatDoor
