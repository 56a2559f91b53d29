/- The walk of slices.Insert of one entry. -/
import Derived.Test.YtjpmfiicbokdcaaDrW
namespace Go.Proofs.Ytjpmfiicbokdcaa
open Go.RowKit
set_option linter.unusedVariables false
set_option linter.unusedSimpArgs false
/-- What inserting yields. -/
def InsP (w : World) (base : Nat) (v : Value) (n : Nat) (l : List Ent) (e : Ending) (w' : World) : Prop := ∃ a' c', e = .returned (.slice a' n c') ∧ w'.ownsRow base 35 2 (.slice a' n c') n (l.flatMap encE) ∧ w.grownBy w' v.ownBlock ∧ ((Value.slice a' n c').ownBlock = v.ownBlock ∨ ∃ q, (Value.slice a' n c').ownBlock = some q ∧ w.heap.size ≤ q)
set_option maxHeartbeats 4000000 in
set_option maxRecDepth 100000 in
theorem insert_end (base : Nat) (a : Option Addr) (n c : Nat) (l : List Ent) (x : Ent) (gA : Nat) (T : TypeId) (w : World) (h : w.ownsRow base 35 2 (.slice a n c) n (l.flatMap encE)) (hn : n ≤ 1000000) (hln : n = l.length) (hb : base ≤ w.heap.size)
    (hA : Blk w gA [.string (bstr x.1), .int .i64 x.2] T) :
    Calls Try.prog 96 #[.slice a n c, .int .i64 (n : Int), .slice (some ⟨gA, 0, none⟩) 1 1] w (InsP w base (.slice a n c) (n + 1) (l ++ [x])) := by
  obtain ⟨i0, hi0, hz0, hz1, hz2⟩ := info_parts info_entry
  have HH := hide h
  obtain ⟨⟨hnc, hcm⟩, -⟩ := own_Rds h
  unfold maxLen at hcm
  have HA := hide hA
  have HLN := hide hln
  clear h hA hln
  by_cases hcn : c = n
  · obtain rfl : n = c := hcn.symm
    go_enter Try.func96, Try.ntmps96
    go_wp2_with (at_builtin; go_loud (refine wpList_append_rd _ rfl (.tmp 23) (.tmp 24) 24 rfl base 35 i0 _ 2 24 Try.underlying24 hi0 hz0 hz1 hz2 rfl (by omega) _ n _ rfl HH.out _ 1 1 ([x].flatMap encE) rfl rfl HA.out.rd (encE_one _) (by simp only [maxLen]; omega) (by omega) hb ?_; intro v5 w5 ho5 hg5 hat5; have HO5 := hide ho5; have HG5 := hide (show w.grownBy w5 (Value.slice a n n).ownBlock from hg5); have HAT := hide (show v5.ownBlock = (Value.slice a n n).ownBlock ∨ v5.ownBlock = some w.heap.size from hat5); clear ho5 hg5 hat5))
    go_ret
    have ho := HO5.out
    obtain ⟨A5, p5, rfl, -, -⟩ := ownG_form ho
    rw [← List.flatMap_append] at ho
    exact ⟨_, _, rfl, ho, HG5.out, HAT.out.imp id fun h => ⟨_, h, Nat.le_refl _⟩⟩
  · skip
    go_enter Try.func96, Try.ntmps96
    go_wp2_with (at_builtin; go_loud (refine wpList_append_rd _ rfl (.tmp 23) (.tmp 24) 24 rfl base 35 i0 _ 2 24 Try.underlying24 hi0 hz0 hz1 hz2 rfl (by omega) _ n _ rfl HH.out _ 1 1 ([x].flatMap encE) rfl rfl HA.out.rd (encE_one _) (by simp only [maxLen]; omega) (by omega) hb ?_; intro v5 w5 ho5 hg5 hat5; have HO5 := hide ho5; have HG5 := hide (show w.grownBy w5 (Value.slice a n c).ownBlock from hg5); have HAT := hide (show v5.ownBlock = (Value.slice a n c).ownBlock ∨ v5.ownBlock = some w.heap.size from hat5); clear ho5 hg5 hat5))
    go_ret
    have ho := HO5.out
    obtain ⟨A5, p5, rfl, -, -⟩ := ownG_form ho
    rw [← List.flatMap_append] at ho
    exact ⟨_, _, rfl, ho, HG5.out, HAT.out.imp id fun h => ⟨_, h, Nat.le_refl _⟩⟩
theorem splice_ab {α : Type} (C : List α) (a : Nat) (X Y : List α) (h : a + X.length + Y.length ≤ C.length) : (splice (splice C (a + X.length) Y) a X).take (a + X.length + Y.length) = C.take a ++ X ++ Y := by
  have h1 : (splice C (a + X.length) Y).length = C.length := splice_len _ _ _ (by omega)
  have h2 : (splice C (a + X.length) Y).take a = C.take a := splice_take_le _ _ _ _ (by omega) (by omega)
  have h3 : (splice C (a + X.length) Y).drop (a + X.length) = Y ++ C.drop (a + X.length + Y.length) := splice_drop _ _ _ (by omega)
  show ((splice C (a + X.length) Y).take a ++ (X ++ (splice C (a + X.length) Y).drop (a + X.length))).take _ = _
  rw [h2, h3, ← List.append_assoc, ← List.append_assoc, List.take_append_of_le_length (by simp; omega), List.take_of_length_le (by simp; omega)]
theorem splice_ba {α : Type} (C : List α) (a : Nat) (X Y : List α) (h : a + X.length + Y.length ≤ C.length) : (splice (splice C a X) (a + X.length) Y).take (a + X.length + Y.length) = C.take a ++ X ++ Y := by
  have h1 : (splice C a X).length = C.length := splice_len _ _ _ (by omega)
  rw [splice_take _ _ _ (by omega), splice_take _ _ _ (by omega)]
set_option maxHeartbeats 4000000 in
set_option maxRecDepth 100000 in
theorem insert_room (base : Nat) (a : Option Addr) (n c : Nat) (l : List Ent) (i : Nat) (x : Ent) (gA : Nat) (T : TypeId) (w : World) (h : w.ownsRow base 35 2 (.slice a n c) n (l.flatMap encE)) (hi : i < n) (hc : n + 1 ≤ c) (hn : n ≤ 1000000) (hln : n = l.length)
    (hA : Blk w gA [.string (bstr x.1), .int .i64 x.2] T) (hne : (Value.slice a n c).ownBlock ≠ some gA) :
    Calls Try.prog 96 #[.slice a n c, .int .i64 (i : Int), .slice (some ⟨gA, 0, none⟩) 1 1] w (InsP w base (.slice a n c) (n + 1) (l.take i ++ x :: l.drop i)) := by
  obtain ⟨g, cur, rfl, hbg, hg, hnc, hcm, hcs, htake⟩ := ownG_inv h (by omega)
  have hgA : gA ≠ g := fun e => hne (by rw [e]; rfl)
  have HG := hide (show Blk w g cur.toList 35 from hg)
  have HT := hide htake
  have hcs2 : cur.toList.length = c * 2 := by simpa using hcs
  obtain ⟨CUR, hCUR⟩ : ∃ CUR, CUR = cur.toList := ⟨_, rfl⟩
  rw [← hCUR] at HG HT hcs2
  have hdl : ((l.drop i).flatMap encE).length = (n - i) * 2 := by rw [flat_len encE_len, List.length_drop, ← hln]
  have hsrc : ∀ j u, ((l.drop i).flatMap encE)[j]? = some u → w.cell? ⟨g, i * 2 + j, none⟩ = some u := by
    intro j u hj
    rw [← flat_drop encE_len, List.getElem?_drop] at hj
    exact (ownG_at h hj).1
  have HSRC := hide hsrc
  have HDL := hide hdl
  obtain ⟨i0, hi0, hz0, hz1, hz2⟩ := info_parts info_entry
  have hsz : (Try.prog.info? 35).map (·.size) = some 2 := by rw [hi0]; simp [hz1]
  have HA := hide hA
  have HLN := hide hln
  have HCM := hide hcm
  unfold maxLen at hcm
  have hin : (i : Int) < (n : Int) := by omega
  have hin0 : (i : Int) ≤ (n : Int) := by omega
  have hin1 : ¬ (i : Int) = (n : Int) := by omega
  have hin2 : ¬ i = n := by omega
  have hcn : ¬ (c : Int) < (n : Int) + 1 := by omega
  have hcn1 : (n : Int) + 1 ≤ (c : Int) := by omega
  have hci : ¬ c = i := by omega
  have hci1 : ¬ c = i + 1 := by omega
  have hi2 : (i : Int) + 1 ≤ (n : Int) + 1 := by omega
  clear h hg htake hcs hCUR hsrc hdl hln hA hne
  go_enter Try.func96, Try.ntmps96
  go_wp2_with fail
  rw [run_callFunc_extern Try.func102 (by kernel_rfl) (by kernel_rfl) (by kernel_rfl) (e := Extern.SlicesOverlaps.overlaps #[24, 24] #[4]) (by kernel_rfl),
    Lib.run_overlaps_apart w 24 4 35 Try.underlying24 2 (fun w => by rw [run_sizeOf w hi0]; simp [Program.cellsOf, hi0, hz1]) ⟨gA, 0, none⟩ ⟨g, (i + 1) * 2, none⟩ 1 1 _ _ hgA T 35 2 CUR.length (by have := HA.out; unfold Blk at this; simp [World.shape?, this]) (by have := HG.out; unfold Blk at this; simp [World.shape?, this]) (by omega) (HA.out.fr 0) (HA.out.fr _)]
  simp only [Result.andThen]
  rw [Oper.upon_value]
  go_wp2_with fail
  have e72 : IntKind.i64.wrap ((i : Int) + 1) = (i : Int) + 1 := wrap_ok (by omega) (by omega)
  have hi3 : (i : Int) ≤ (n : Int) + 1 := by omega
  refine wp_region_K 8 (by kernel_rfl) (by kernel_rfl) (fun Q HQ => ?_)
  simp only [List.take_succ_cons, List.take_zero, List.map_cons, List.map_nil]
  repeat
    first | apply wpS_c rfl | apply wpS_gc rfl (guard_mk rfl rfl)
    focus
      intro ev wx hC hx
      (try simp [Op.operands, Call.operands, opndS, Slot.holds] at hx)
      skip
      go_simp
      try (first | exact rfl | exact ⟨Below.refl _ _, rfl⟩)
      done
    dsimp only [setS, List.set]
  refine wpS_nil (HQ _ fun w4 hC4 => ?_)
  simp only [closeS, List.drop_succ_cons, List.drop_zero, List.drop_nil]
  have hb4 := hC4.below
  have D0 := hide (HG.out.below hb4)
  have DA := hide (HA.out.below hb4)
  have HS4 := hide (fun j u hj => (show w4.cell? ⟨g, i * 2 + j, none⟩ = some u from (hb4.cell HG.out.lt).trans (HSRC.out j u hj)))
  have HB4 := hide hb4
  clear hb4 hC4 HQ
  go_wp2_with fail
  have hX : ([x].flatMap encE).length = 2 := by simp [encE]
  obtain ⟨X, hXX⟩ : ∃ X, X = [x].flatMap encE := ⟨_, rfl⟩
  obtain ⟨Y, hYY⟩ : ∃ Y, Y = (l.drop i).flatMap encE := ⟨_, rfl⟩
  have hX2 : X.length = 2 := by rw [hXX]; exact hX
  have hY2 : Y.length = (n - i) * 2 := by rw [hYY]; exact HDL.out
  have hL : (splice CUR ((i + 1) * 2) Y).length = c * 2 := by rw [splice_len _ _ _ (by omega)]; exact hcs2
  rw [run_copyS (P := Try.prog) w4 24 24 _ 35 g ((i + 1) * 2) (n - i) (c - (i + 1)) ⟨g, i * 2, none⟩ (n + 1 - i) (c - i) CUR _ Y (n - i) 2 Try.underlying24 hsz D0.out (by simp only [Nat.min_def]; split <;> omega) hY2 (by intro j u hj; rw [Addr.add_lit]; exact HS4.out j u (hYY ▸ hj)) (by omega) (by rw [hYY]; exact encE_one _)]
  simp only [Result.andThen]
  rw [Oper.upon_value]
  have D5 := hide (blk_setRow w4 D0.out (splice CUR ((i + 1) * 2) Y))
  have hg5 := grown_setRow w4 g (splice CUR ((i + 1) * 2) Y).toArray
  have DA5 := hide (DA.out.grown hg5 (by intro e; injection e with e; exact hgA e.symm))
  have HG5 := hide hg5
  obtain ⟨w5, hw5⟩ : ∃ w5, w5 = w4.setRow g (splice CUR ((i + 1) * 2) Y).toArray := ⟨_, rfl⟩
  rw [← hw5] at D5 DA5 HG5 ⊢
  clear hw5 hg5
  go_wp2_with fail
  rw [run_copyS (P := Try.prog) w5 24 24 _ 35 g (i * 2) (n + 1 - i) (c - i) ⟨gA, 0, none⟩ 1 1 (splice CUR ((i + 1) * 2) Y) _ X 1 2 Try.underlying24 hsz D5.out (by simp only [Nat.min_def]; split <;> omega) (by rw [hX2]) (by intro j u hj; rw [Addr.add_lit, Nat.zero_add]; rw [hXX] at hj; exact DA5.out.cell (by simpa [encE] using hj)) (by omega) (by rw [hXX]; exact encE_one _)]
  simp only [Result.andThen]
  rw [Oper.upon_value]
  have D6 := hide (blk_setRow w5 D5.out (splice (splice CUR ((i + 1) * 2) Y) (i * 2) X))
  have HG6 := hide (grown_setRow w5 g (splice (splice CUR ((i + 1) * 2) Y) (i * 2) X).toArray)
  obtain ⟨w6, hw6⟩ : ∃ w6, w6 = w5.setRow g (splice (splice CUR ((i + 1) * 2) Y) (i * 2) X).toArray := ⟨_, rfl⟩
  rw [← hw6] at D6 HG6 ⊢
  clear hw6
  go_wp2
  go_ret
  have hsp := splice_ab CUR (i * 2) X Y (by omega)
  rw [hX2, hY2, show i * 2 + 2 = (i + 1) * 2 by omega, show (i + 1) * 2 + (n - i) * 2 = (n + 1) * 2 by omega] at hsp
  have h1 : CUR.take (i * 2) = (CUR.take (n * 2)).take (i * 2) := by rw [List.take_take, Nat.min_eq_left (by omega)]
  refine ⟨_, _, rfl, own_of_blk D6.out hbg (by omega) HCM.out (by rw [splice_len _ _ _ (by omega)]; exact hL) ?_, ((grown_of_below _ HB4.out).trans HG5.out).trans HG6.out, .inl rfl⟩
  rw [hsp, h1, HT.out, flat_take encE_len, hXX, hYY, List.append_assoc, ← List.flatMap_append, ← List.flatMap_append]
  rfl
set_option maxHeartbeats 4000000 in
set_option maxRecDepth 100000 in
theorem insert_grow (base : Nat) (a : Option Addr) (n : Nat) (l : List Ent) (i : Nat) (x : Ent) (gA : Nat) (T : TypeId) (w : World) (h : w.ownsRow base 35 2 (.slice a n n) n (l.flatMap encE)) (hi : i < n) (hn : n ≤ 1000000) (hln : n = l.length) (hb : base ≤ w.heap.size)
    (hA : Blk w gA [.string (bstr x.1), .int .i64 x.2] T) :
    Calls Try.prog 96 #[.slice a n n, .int .i64 (i : Int), .slice (some ⟨gA, 0, none⟩) 1 1] w (InsP w base (.slice a n n) (n + 1) (l.take i ++ x :: l.drop i)) := by
  obtain ⟨g, cur, rfl, hbg, hg, -, hcm, hcs, htake⟩ := ownG_inv h (by omega)
  have HG := hide (show Blk w g cur.toList 35 from hg)
  have HB := hide hb
  have htl : ((l.take i).flatMap encE).length = i * 2 := by rw [flat_len encE_len, List.length_take, ← hln, Nat.min_eq_left (by omega)]
  have hdl : ((l.drop i).flatMap encE).length = (n - i) * 2 := by rw [flat_len encE_len, List.length_drop, ← hln]
  have hsrc : ∀ j u, ((l.drop i).flatMap encE)[j]? = some u → w.cell? ⟨g, i * 2 + j, none⟩ = some u := by
    intro j u hj
    rw [← flat_drop encE_len, List.getElem?_drop] at hj
    exact (ownG_at h hj).1
  have hsrc0 : ∀ j u, ((l.take i).flatMap encE)[j]? = some u → w.cell? ⟨g, 0 + j, none⟩ = some u := by
    intro j u hj
    rw [← flat_take encE_len, List.getElem?_take] at hj
    rw [Nat.zero_add]
    split at hj
    · exact (ownG_at h hj).1
    · cases hj
  obtain ⟨i0, hi0, hz0, hz1, hz2⟩ := info_parts info_entry
  have hsz : (Try.prog.info? 35).map (·.size) = some 2 := by rw [hi0]; simp [hz1]
  have hold : (Builtin.firstCells i0.size i (.slice (some ⟨g, 0, none⟩) i n)).run Try.prog w.drew = .ok ((l.take i).flatMap encE).toArray w.drew := by
    rw [hz1]
    exact run_firstCells_some (P := Try.prog) w.drew 2 i ⟨g, 0, none⟩ i n _ htl (fun j v hj => by rw [Addr.add_lit]; exact hsrc0 j v hj)
  obtain ⟨G, hG⟩ : ∃ G, G = grownCap w (n + 1) n 35 := ⟨_, rfl⟩
  obtain ⟨ROW, hROW⟩ : ∃ ROW : Array Value, ROW = ((l.take i).flatMap encE).toArray ++ Builtin.zeroCells (Value.agg #[.string ByteArray.empty, .int .i64 0]).cells (n + 1 - i) ++ Builtin.zeroCells (Value.agg #[.string ByteArray.empty, .int .i64 0]).cells (G - (n + 1)) := ⟨_, rfl⟩
  have hGn : n + 1 ≤ G := by rw [hG]; exact grownCap_ge w _ _ _
  have hGm : G ≤ maxLen := by rw [hG]; exact grownCap_le_maxLen w _ _ _ (by simp only [maxLen]; omega)
  have hRl : ROW.size = G * 2 := by
    rw [hROW]
    simp only [Array.size_append, List.size_toArray, htl, size_zeroCells]
    show i * 2 + (n + 1 - i) * 2 + (G - (n + 1)) * 2 = G * 2
    omega
  have hRt : ROW.toList.take (i * 2) = (l.take i).flatMap encE := by
    rw [hROW, ← htl]
    simp
  obtain ⟨W1, hW1⟩ : ∃ W1, W1 = w.drew.alloc (.cells ROW 35) := ⟨_, rfl⟩
  have hrz : ∀ ty, (Builtin.append_ #[24, 3] ty #[.slice (some ⟨g, 0, none⟩) i n, .int .i64 ((n : Int) + 1 - (i : Int))]).run Try.prog w = .ok (.slice (some ⟨w.heap.size, 0, none⟩) (n + 1) G) W1 := fun ty => by
    have h := Lib.run_append_grow_zeros (P := Try.prog) w 24 3 ty 35 i0 _ .i64 .i64 Try.underlying24 Try.underlying3 hi0 hz0 (some ⟨g, 0, none⟩) i n _ hold (n + 1 - i) (by omega) (by omega) (by omega) (by omega) (by rw [hz2]; omega) (by rw [hz2, show i + (n + 1 - i) = n + 1 by omega]; exact growslice_fits (by omega) (by omega))
    rw [show i + (n + 1 - i) = n + 1 by omega, ← hG, ← hROW, ← hW1, show ((n + 1 - i : Nat) : Int) = (n : Int) + 1 - (i : Int) by omega] at h
    exact h
  have hba : Below w.heap.size w W1 := by rw [hW1]; have hq := bl_alloc (bl_refl w.drew) (.cells ROW 35); exact ⟨hq.os, hq.tape, hq.output, hq.size, hq.block⟩
  have D1 := hide (show Blk W1 w.heap.size ROW.toList 35 by rw [hW1]; exact heap_alloc_new w.drew _)
  have HA := hide (hA.below hba)
  have HS1 := hide (fun j u hj => (show W1.cell? ⟨g, i * 2 + j, none⟩ = some u from (hba.cell HG.out.lt).trans (hsrc j u hj)))
  have HDL := hide hdl
  have hgw : g < w.heap.size := HG.out.lt
  have hAw : gA < w.heap.size := hA.lt
  have HBA := hide hba
  have HGM := hide hGm
  have HRT := hide hRt
  have HRL := hide (show ROW.toList.length = G * 2 by simpa using hRl)
  have HRZ := hide hrz
  obtain ⟨RL, hRLL⟩ : ∃ RL, RL = ROW.toList := ⟨_, rfl⟩
  rw [← hRLL] at D1 HRT HRL
  unfold maxLen at hcm
  have hin : (i : Int) < (n : Int) := by omega
  have hin0 : (i : Int) ≤ (n : Int) := by omega
  have hin1 : ¬ (i : Int) = (n : Int) := by omega
  have hin2 : ¬ i = n := by omega
  have hin3 : ¬ n = i := by omega
  have hcn : (n : Int) < (n : Int) + 1 := by omega
  have hGi : ¬ G = i := by omega
  have hGi1 : ¬ G = i + 1 := by omega
  have hi2 : (i : Int) + 1 ≤ (n : Int) + 1 := by omega
  have hi3 : (i : Int) ≤ (n : Int) + 1 := by omega
  clear h hg htake hcs hsrc hsrc0 hdl htl hln hA hold hG hROW hGm hRl hRt hrz hba hW1 hb hRLL
  go_enter Try.func96, Try.ntmps96
  go_wp2_with (at_builtin; go_loud (refine Lib.wpList_append_run _ rfl (.tmp 34) (.tmp 39) 24 3 rfl _ _ rfl rfl _ _ (HRZ.out _) ?_))
  have hX : ([x].flatMap encE).length = 2 := by simp [encE]
  obtain ⟨X, hXX⟩ : ∃ X, X = [x].flatMap encE := ⟨_, rfl⟩
  obtain ⟨Y, hYY⟩ : ∃ Y, Y = (l.drop i).flatMap encE := ⟨_, rfl⟩
  have hX2 : X.length = 2 := by rw [hXX]; exact hX
  have hY2 : Y.length = (n - i) * 2 := by rw [hYY]; exact HDL.out
  have hrl := HRL.out
  have hL : (splice RL (i * 2) X).length = G * 2 := by rw [splice_len _ _ _ (by omega)]; exact hrl
  rw [run_copyS (P := Try.prog) W1 24 24 _ 35 w.heap.size (i * 2) (n + 1 - i) (G - i) ⟨gA, 0, none⟩ 1 1 RL _ X 1 2 Try.underlying24 hsz D1.out (by simp only [Nat.min_def]; split <;> omega) (by rw [hX2]) (by intro j u hj; rw [Addr.add_lit, Nat.zero_add]; rw [hXX] at hj; exact HA.out.cell (by simpa [encE] using hj)) (by omega) (by rw [hXX]; exact encE_one _)]
  simp only [Result.andThen]
  rw [Oper.upon_value]
  have D2 := hide (blk_setRow W1 D1.out (splice RL (i * 2) X))
  have hg2 := grown_setRow W1 w.heap.size (splice RL (i * 2) X).toArray
  have HS2 := hide (fun j u hj => (show (W1.setRow w.heap.size (splice RL (i * 2) X).toArray).cell? ⟨g, i * 2 + j, none⟩ = some u from hg2.cell (HS1.out j u hj) (by intro e; injection e with e; simp at e; omega)))
  have HG2 := hide hg2
  obtain ⟨w2, hw2⟩ : ∃ w2, w2 = W1.setRow w.heap.size (splice RL (i * 2) X).toArray := ⟨_, rfl⟩
  rw [← hw2] at D2 HS2 HG2 ⊢
  clear hw2 hg2
  go_wp2_with fail
  have e72 : IntKind.i64.wrap ((i : Int) + 1) = (i : Int) + 1 := wrap_ok (by omega) (by omega)
  refine wp_region_K 8 (by kernel_rfl) (by kernel_rfl) (fun Q HQ => ?_)
  simp only [List.take_succ_cons, List.take_zero, List.map_cons, List.map_nil]
  repeat
    first | apply wpS_c rfl | apply wpS_gc rfl (guard_mk rfl rfl)
    focus
      intro ev wx hC hx
      (try simp [Op.operands, Call.operands, opndS, Slot.holds] at hx)
      skip
      go_simp
      try (first | exact rfl | exact ⟨Below.refl _ _, rfl⟩)
      done
    dsimp only [setS, List.set]
  refine wpS_nil (HQ _ fun w4 hC4 => ?_)
  simp only [List.map_cons, List.map_nil, List.set_cons_succ, List.set_cons_zero, closeS, List.drop_succ_cons, List.drop_zero, List.drop_nil]
  have hb4 := hC4.below
  have D4 := hide (D2.out.below hb4)
  have hl2 := D2.out.lt
  have HS4 := hide (fun j u hj => (show w4.cell? ⟨g, i * 2 + j, none⟩ = some u from (hb4.cell (show g < w2.heap.size by omega)).trans (HS2.out j u hj)))
  have HB4 := hide hb4
  clear hb4 hC4 HQ
  go_wp2_with fail
  rw [run_copyS (P := Try.prog) w4 24 24 _ 35 w.heap.size ((i + 1) * 2) (n - i) (G - (i + 1)) ⟨g, i * 2, none⟩ (n - i) (n - i) (splice RL (i * 2) X) _ Y (n - i) 2 Try.underlying24 hsz D4.out (by simp only [Nat.min_def]; split <;> omega) hY2 (by intro j u hj; rw [Addr.add_lit]; exact HS4.out j u (hYY ▸ hj)) (by omega) (by rw [hYY]; exact encE_one _)]
  simp only [Result.andThen]
  rw [Oper.upon_value]
  have D5 := hide (blk_setRow w4 D4.out (splice (splice RL (i * 2) X) ((i + 1) * 2) Y))
  have HG5 := hide (grown_setRow w4 w.heap.size (splice (splice RL (i * 2) X) ((i + 1) * 2) Y).toArray)
  obtain ⟨w5, hw5⟩ : ∃ w5, w5 = w4.setRow w.heap.size (splice (splice RL (i * 2) X) ((i + 1) * 2) Y).toArray := ⟨_, rfl⟩
  rw [← hw5] at D5 HG5 ⊢
  clear hw5
  go_wp2
  go_ret
  have hsp := splice_ba RL (i * 2) X Y (by omega)
  rw [hX2, hY2, show i * 2 + 2 = (i + 1) * 2 by omega, show (i + 1) * 2 + (n - i) * 2 = (n + 1) * 2 by omega] at hsp
  refine ⟨_, _, rfl, own_of_blk D5.out HB.out (by omega) HGM.out (by rw [splice_len _ _ _ (by omega)]; exact hL) ?_, ?_, .inr ⟨_, rfl, Nat.le_refl _⟩⟩
  · rw [hsp, HRT.out, hXX, hYY, List.append_assoc, ← List.flatMap_append, ← List.flatMap_append]
    rfl
  · have k1 := HBA.out
    have k2 := HG2.out
    have k4 := HB4.out
    have k5 := HG5.out
    have s1 := k1.size
    have s2 := k2.size
    refine ⟨k5.os.trans (k4.os.trans (k2.os.trans k1.os)), k5.tape.trans (k4.tape.trans (k2.tape.trans k1.tape)), k5.output.trans (k4.output.trans (k2.output.trans k1.output)), Nat.le_trans (Nat.le_trans (Nat.le_trans s1 s2) k4.size) k5.size, fun k hk _ => ?_⟩
    rw [k5.block k (by have := k4.size; omega) (by intro e; injection e with e; omega), k4.block k (by omega), k2.block k (by omega) (by intro e; injection e with e; omega), k1.block k hk]
theorem insert_any (base : Nat) (a : Option Addr) (n c : Nat) (l : List Ent) (i : Nat) (x : Ent) (gA : Nat) (T : TypeId) (w : World) (h : w.ownsRow base 35 2 (.slice a n c) n (l.flatMap encE)) (hi : i ≤ n) (hn : n ≤ 1000000) (hln : n = l.length) (hb : base ≤ w.heap.size)
    (hA : Blk w gA [.string (bstr x.1), .int .i64 x.2] T) (hne : (Value.slice a n c).ownBlock ≠ some gA) :
    Calls Try.prog 96 #[.slice a n c, .int .i64 (i : Int), .slice (some ⟨gA, 0, none⟩) 1 1] w (InsP w base (.slice a n c) (n + 1) (l.take i ++ x :: l.drop i)) := by
  by_cases hin : i = n
  · subst hin
    rw [List.take_of_length_le (by omega), List.drop_of_length_le (by omega)]
    exact insert_end base a i c l x gA T w h hn hln hb hA
  · obtain ⟨⟨hnc, -⟩, -⟩ := own_Rds h
    by_cases hc : n = c
    · subst hc
      exact insert_grow base a n l i x gA T w h (by omega) hn hln hb hA
    · exact insert_room base a n c l i x gA T w h (by omega) (by omega) hn hln hA hne
end Go.Proofs.Ytjpmfiicbokdcaa
