/- The walk of the reference's copied. -/
import Derived.Test.YtjpmfiicbokdcaaDjW
namespace Go.Proofs.Ytjpmfiicbokdcaa
open Go.RowKit
set_option linter.unusedVariables false
set_option linter.unusedSimpArgs false
theorem info_inode : (Try.prog.info? 33).map (fun i => (i.zero, i.size, i.bytes)) = some (some (.agg #[.string ByteArray.empty, .int .i64 0]), 2, 24) := by kernel_rfl
theorem info_op : (Try.prog.info? 48).map (fun i => (i.zero, i.size, i.bytes)) = some (some (.agg #[.int .i64 0, .string ByteArray.empty, .string ByteArray.empty, .string ByteArray.empty]), 4, 56) := by kernel_rfl
theorem grown_setCell (w : World) (p : Addr) (v : Value) : w.grownBy (w.setCell p v) (some p.block) := ⟨rfl, rfl, rfl, by simp, fun k hk hne => by simp [World.setCell, Array.getElem?_modify]; intro h; exact absurd (by rw [h]) hne⟩
theorem cop2 {w7 w8 : World} {g : Nat} {s0 s1 s2 s3 v0 : Value} {T T' : TypeId} {o : Obj} (h : w7.heap[g]? = some (.cells #[s0, s1, s2, s3] T (0, 0))) (h' : w7.heap[g + 1]? = some o) (hg : ((w7.setCell ⟨g, 0, none⟩ v0).alloc (.cells #[] T')).grownBy w8 (some w7.heap.size)) :
    w8.heap[g]? = some (.cells #[v0, s1, s2, s3] T (0, 0)) ∧ w8.heap[g + 1]? = some o := by
  have l1 := (Array.getElem?_eq_some_iff.1 h).1
  have l2 := (Array.getElem?_eq_some_iff.1 h').1
  have hba := bl_alloc (bl_refl (w7.setCell ⟨g, 0, none⟩ v0)) (.cells #[] T')
  constructor
  · rw [hg.block _ (by simp; omega) (by intro e; injection e with e; omega), hba.block _ (by simp; omega)]
    simp [World.setCell, Array.getElem?_modify, h]
  · rw [hg.block _ (by simp; omega) (by intro e; injection e with e; omega), hba.block _ (by simp; omega)]
    simp [World.setCell, Array.getElem?_modify, h']
/-- The world behind the stores of a copied disk. -/
def fin5 (w8 : World) (g : Nat) (p0 p1 p2 p3 p4 : Value) : World := ((((w8.setCell ⟨g, 3, none⟩ p0).setCell ⟨g + 1, 0, none⟩ p1).setCell ⟨g + 1, 1, none⟩ p2).setCell ⟨g + 1, 2, none⟩ p3).setCell ⟨g + 1, 3, none⟩ p4
theorem fin5_heap (w8 : World) (g : Nat) (p0 p1 p2 p3 p4 : Value) (k : Nat) (hk : k ≠ g) (hk' : k ≠ g + 1) : (fin5 w8 g p0 p1 p2 p3 p4).heap[k]? = w8.heap[k]? := by
  simp [fin5, World.setCell, Array.getElem?_modify, Ne.symm hk, Ne.symm hk']
theorem fin5_below {w w8 : World} {g : Nat} (hg : w.heap.size ≤ g) (hb : Below w.heap.size w w8) (p0 p1 p2 p3 p4 : Value) : Below w.heap.size w (fin5 w8 g p0 p1 p2 p3 p4) := by
  unfold fin5
  have st : ∀ {wx : World} (hb : Below w.heap.size w wx) (b o : Nat) (v : Value), w.heap.size ≤ b → Below w.heap.size w (wx.setCell ⟨b, o, none⟩ v) := fun hb b o v h => bl_grown hb (grown_setCell _ _ _) (fun q hq => by injection hq with hq; simp at hq; omega)
  exact st (st (st (st (st hb _ _ _ hg) _ _ _ (by omega)) _ _ _ (by omega)) _ _ _ (by omega)) _ _ _ (by omega)
/-- A copy of a disk: its inodes and operations are the call's own. -/
def CopP (w : World) (d : Dsk) (a2 : Option Addr) (n2 c2 : Nat) (a3 : Option Addr) (n3 c3 : Nat) (e : Ending) (w' : World) : Prop := ∃ v1 v4, e = .returned (.agg #[v1, .slice a2 n2 c2, .slice a3 n3 c3, v4]) ∧ w'.ownsRow w.heap.size 33 2 v1 d.inodes.length (d.inodes.flatMap encE) ∧ w'.ownsRow w.heap.size 48 4 v4 d.ops.length (d.ops.flatMap encO) ∧ (∀ q, v1.ownBlock = some q → v4.ownBlock ≠ some q) ∧ Below w.heap.size w w'
set_option maxHeartbeats 16000000 in
set_option maxRecDepth 100000 in
theorem rcopied_any (a1 : Option Addr) (n1 c1 : Nat) (a2 : Option Addr) (n2 c2 : Nat) (a3 : Option Addr) (n3 c3 : Nat) (a4 : Option Addr) (n4 c4 : Nat) (d : Dsk) (w : World) (h1 : RE w a1 n1 d.inodes) (h4 : RO w a4 n4 d.ops) (hs : szD d) :
    Calls Try.prog 54 #[.agg #[.slice a1 n1 c1, .slice a2 n2 c2, .slice a3 n3 c3, .slice a4 n4 c4]] w (CopP w d a2 n2 c2 a3 n3 c3) := by
  have H1 := hide h1
  have H4 := hide h4
  have hn1 : n1 ≤ 100000 := by rw [h1.1]; exact hs.1
  have hn4 : n4 ≤ 100000 := by rw [h4.1]; exact hs.2.2.2
  obtain ⟨i0, hi0, hz0, hz1, hz2⟩ := info_parts info_inode
  obtain ⟨j0, hj0, hy0, hy1, hy2⟩ := info_parts info_op
  clear h1 h4 hs
  obtain ⟨W2, hW2⟩ : ∃ W2, W2 = (w.alloc (.cells #[.slice a1 n1 c1, .slice a2 n2 c2, .slice a3 n3 c3, .slice a4 n4 c4] 27)).alloc (.cells #[.slice none 0 0, .slice none 0 0, .slice none 0 0, .slice none 0 0] 27) := ⟨_, rfl⟩
  have hs2 : W2.heap.size = w.heap.size + 1 + 1 := by rw [hW2]; simp
  have hb2 : Below w.heap.size w W2 := by rw [hW2]; exact bl_alloc (bl_alloc (bl_refl w) _) _
  have hp0 : W2.heap[w.heap.size]? = some (.cells #[.slice a1 n1 c1, .slice a2 n2 c2, .slice a3 n3 c3, .slice a4 n4 c4] 27 (0, 0)) := by
    rw [hW2, (bl_alloc (bl_refl (w.alloc _)) _).block w.heap.size (by simp)]; exact heap_alloc_new w _
  have hp1 : W2.heap[w.heap.size + 1]? = some (.cells #[.slice none 0 0, .slice none 0 0, .slice none 0 0, .slice none 0 0] 27 (0, 0)) := by
    rw [hW2]; exact heap_alloc_eq (by simp) _
  have HP := hide (fun (wx : World) (hg : (W2.alloc (.cells #[] 33)).grownBy wx (some (w.heap.size + 1 + 1))) => show wx.heap[w.heap.size]? = some (.cells #[.slice a1 n1 c1, .slice a2 n2 c2, .slice a3 n3 c3, .slice a4 n4 c4] 27 (0, 0)) ∧ wx.heap[w.heap.size + 1]? = some (.cells #[.slice none 0 0, .slice none 0 0, .slice none 0 0, .slice none 0 0] 27 (0, 0)) ∧ Below w.heap.size w wx from by
    have e : W2.heap.size + 1 = (W2.alloc (.cells #[] 33)).heap.size := by simp
    have hba := bl_alloc (bl_refl W2) (.cells #[] 33)
    refine ⟨?_, ?_, ?_⟩
    · rw [hg.block _ (by rw [← e]; omega) (by simp; omega), hba.block _ (by omega)]; exact hp0
    · rw [hg.block _ (by rw [← e]; omega) (by simp), hba.block _ (by omega)]; exact hp1
    · exact bl_grown (bl_alloc hb2 _) hg (fun q hq => by injection hq with hq; omega))
  have HW2 := hide hW2
  clear hp0 hp1 hb2
  rw [hW2] at HP
  clear hW2 hs2
  go_enter Try.func54, Try.ntmps54
  have HP4 := hide (fun (wx : World) (hb : Below w.heap.size w wx) (v : Value) => show Below w.heap.size w (wx.setCell ⟨w.heap.size, 0, none⟩ v) from bl_grown hb (grown_setCell _ _ _) (fun q hq => by injection hq with hq; simp at hq; omega))
  go_wp2_with (at_builtin; go_loud (first | (refine wpList_append_rd _ rfl (.tmp 3) (.tmp 5) 23 rfl (w.heap.size + 1 + 1) 33 i0 _ 2 24 Try.underlying23 hi0 hz0 hz1 hz2 rfl (by omega) _ 0 [] rfl (own_empty (by omega) (heap_alloc_eq (by simp) _)) a1 n1 c1 (d.inodes.flatMap encE) rfl (by rw [flat_len encE_len, ← H1.out.1]) (Rd.below H1.out.2 (bl_alloc (bl_alloc (bl_alloc (bl_refl w) _) _) _)) (encE_one _) (by simp only [maxLen]; omega) (by omega) (by first | omega | simp) ?_; intro v7 w7 ho7 hg7 hat7; obtain ⟨A7, c7, e7, hc7, hr7⟩ := ownG_form ho7; obtain rfl := e7; obtain ⟨hp, hq, hb7⟩ := HP.out w7 hg7; have HHP := hide hp; have HHQ := hide hq; have HB7 := hide hb7; have HO7 := hide ho7; have k0 : w7.cell? ⟨w.heap.size, 0, none⟩ = some (.slice a1 n1 c1) := (cell_of_row w7 w.heap.size 0 _ _ _ hp).trans rfl; have k3 : w7.cell? ⟨w.heap.size, 3, none⟩ = some (.slice a4 n4 c4) := (cell_of_row w7 w.heap.size 3 _ _ _ hp).trans rfl; have fz : ∀ j, w7.frozen? ⟨w.heap.size, j, none⟩ = false := (fun j => (by simp [World.frozen?, hp])); have hlt7 : w.heap.size < w7.heap.size := (Array.getElem?_eq_some_iff.1 hp).1; clear hp hq hb7 ho7 hr7 hg7 hat7) | (refine wpList_append_rd _ rfl (.tmp 8) (.tmp 10) 25 rfl w7.heap.size 48 j0 _ 4 56 Try.underlying25 hj0 hy0 hy1 hy2 rfl (by omega) _ 0 [] rfl (own_empty (by omega) (heap_alloc_eq (by simp) _)) a4 n4 c4 (d.ops.flatMap encO) rfl (by rw [flat_len encO_len, ← H4.out.1]) (Rd.below H4.out.2 (bl_alloc (HP4.out _ HB7.out _) _)) (encO_one _) (by simp only [maxLen]; omega) (by omega) (by first | omega | simp) ?_; intro v8 w8 ho8 hg8 hat8; obtain ⟨A8, c8, e8, hc8, hr8⟩ := ownG_form ho8; obtain rfl := e8; obtain ⟨hp, hq⟩ := cop2 HHP.out HHQ.out hg8; have HHP8 := hide hp; have HHQ8 := hide hq; have HO8 := hide ho8; have HG8 := hide hg8; have k80 := (cell_of_row w8 w.heap.size 0 _ _ _ hp).trans (show _ = some _ from rfl); have m80 := (cell_of_row w8 (w.heap.size + 1) 0 _ _ _ hq).trans (show _ = some _ from rfl); have k81 := (cell_of_row w8 w.heap.size 1 _ _ _ hp).trans (show _ = some _ from rfl); have m81 := (cell_of_row w8 (w.heap.size + 1) 1 _ _ _ hq).trans (show _ = some _ from rfl); have k82 := (cell_of_row w8 w.heap.size 2 _ _ _ hp).trans (show _ = some _ from rfl); have m82 := (cell_of_row w8 (w.heap.size + 1) 2 _ _ _ hq).trans (show _ = some _ from rfl); have k83 := (cell_of_row w8 w.heap.size 3 _ _ _ hp).trans (show _ = some _ from rfl); have m83 := (cell_of_row w8 (w.heap.size + 1) 3 _ _ _ hq).trans (show _ = some _ from rfl); have fz8 : ∀ j, w8.frozen? ⟨w.heap.size, j, none⟩ = false := (fun j => (by simp [World.frozen?, hp])); have gz8 : ∀ j, w8.frozen? ⟨w.heap.size + 1, j, none⟩ = false := (fun j => (by simp [World.frozen?, hq])); have hlt8 : w.heap.size + 1 < w8.heap.size := (Array.getElem?_eq_some_iff.1 hq).1; clear hp hq ho8 hr8 hg8 hat8)))
  refine bodyPost_ret (results_cell_row Try.results54 _ _ (w.heap.size + 1) 27 #[.slice A7 n1 c7, .slice a2 n2 c2, .slice a3 n3 c3, .slice A8 n4 c8] (0, 0) _ rfl (by simp [World.setCell, Array.getElem?_modify, HHQ8.out]) Try.underlying27 rfl (by kernel_rfl)) rfl ?_
  change CopP w d a2 n2 c2 a3 n3 c3 _ (fin5 w8 w.heap.size (.slice A8 n4 c8) (.slice A7 n1 c7) (.slice a2 n2 c2) (.slice a3 n3 c3) (.slice A8 n4 c8))
  have o7 := HO7.out
  have o8 := HO8.out
  have hg8 : ((w7.setCell ⟨w.heap.size, 0, none⟩ (.slice A7 n1 c7)).alloc (.cells #[] 48)).grownBy w8 (some w7.heap.size) := HG8.out
  rw [Nat.zero_add, List.nil_append] at o7 o8
  have hb8 : Below w.heap.size w w8 := bl_grown (bl_alloc (HP4.out _ HB7.out _) _) hg8 (fun q hq => by injection hq with hq; omega)
  have q7 : ∀ k, (Value.slice A7 n1 c7).ownBlock = some k → w.heap.size + 1 + 1 ≤ k ∧ k < w7.heap.size := fun k hk => ownG_lt o7 hk
  have q8 : ∀ k, (Value.slice A8 n4 c8).ownBlock = some k → w7.heap.size ≤ k ∧ k < w8.heap.size := fun k hk => ownG_lt o8 hk
  have hl7 : w.heap.size + 1 < w7.heap.size := (Array.getElem?_eq_some_iff.1 HHQ.out).1
  refine ⟨_, _, rfl, ?_, ?_, ?_, ?_⟩
  · rw [← H1.out.1]
    refine own_baseG (ownG_blocks o7 (fun k hk => ?_)) (by omega)
    have hk2 := q7 k hk
    rw [fin5_heap _ _ _ _ _ _ _ k (by omega) (by omega), hg8.block k (by simp; omega) (by intro e; injection e with e; omega), (bl_alloc (bl_refl (w7.setCell _ _)) _).block k (by simp; omega)]
    simp [World.setCell, Array.getElem?_modify]
    intro e; omega
  · rw [← H4.out.1]
    exact own_baseG (ownG_blocks o8 (fun k hk => fin5_heap _ _ _ _ _ _ _ k (by have := q8 k hk; omega) (by have := q8 k hk; omega))) (by omega)
  · intro q h7 h8
    have := q7 q h7
    have := q8 q h8
    omega
  · exact fin5_below (Nat.le_refl _) hb8 _ _ _ _ _
end Go.Proofs.Ytjpmfiicbokdcaa
