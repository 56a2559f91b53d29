/- The walk of the reference's settle. -/
import Derived.Test.YtjpmfiicbokdcaaDkW
import Derived.Test.YtjpmfiicbokdcaaDBx
namespace Go.Proofs.Ytjpmfiicbokdcaa
open Go.RowKit
set_option linter.unusedVariables false
set_option linter.unusedSimpArgs false
theorem kept_take (dir : List Ent) : ∀ (l : List Ent) (a k : Nat) (x : Ent), l[k]? = some x → keptM dir a (l.take (k + 1)) = keptM dir a (l.take k) ++ (if usedM dir (a + k) then [x] else [])
  | [], _, _, _, h => by simp at h
  | y :: l, a, 0, x, h => by
    simp at h; subst h
    simp [keptM]
  | y :: l, a, k + 1, x, h => by
    have ih := kept_take dir l (a + 1) k x (by simpa using h)
    rw [show a + 1 + k = a + (k + 1) by omega] at ih
    rw [List.take_succ_cons, List.take_succ_cons, keptM, keptM, ih]
    split <;> simp
theorem at_succ (dir : List Ent) (k : Nat) : atM dir (k + 1) = atM dir k + (if usedM dir k then 1 else 0) := by
  unfold atM
  rw [List.range_succ, List.countP_append]
  simp [List.countP_cons]
theorem kept_len (dir : List Ent) (l : List Ent) : ∀ k, k ≤ l.length → (keptM dir 0 (l.take k)).length = atM dir k
  | 0, _ => rfl
  | k + 1, h => by
    rw [kept_take dir l 0 k _ (List.getElem?_eq_getElem (by omega)), List.length_append, kept_len dir l k (by omega), at_succ, Nat.zero_add]
    split <;> simp
theorem at_le (dir : List Ent) (k : Nat) : atM dir k ≤ k := by
  unfold atM
  have := List.countP_le_length (p := usedM dir) (l := List.range k)
  simpa using this
theorem info_int : (Try.prog.info? 3).map (fun i => (i.zero, i.size, i.bytes)) = some (some (.int .i64 0), 1, 8) := by kernel_rfl
/-- Where the inode i goes, or -1. -/
def atv (dir : List Ent) (i : Nat) : Int := if usedM dir i then ((atM dir i : Nat) : Int) else -1
def atL (dir : List Ent) (n k : Nat) : List Value := (List.range n).map fun i => if i < k then .int .i64 (atv dir i) else .int .i64 0
theorem atL_zero (dir : List Ent) (n : Nat) : atL dir n 0 = List.replicate n (.int .i64 0) := by
  unfold atL
  apply List.ext_getElem?
  intro i
  simp [List.getElem?_replicate, List.getElem?_range]
  by_cases h : i < n <;> simp [h]
theorem atL_get {dir : List Ent} {n k i : Nat} (h : i < n) : (atL dir n k)[i]? = some (if i < k then .int .i64 (atv dir i) else .int .i64 0) := by
  unfold atL
  simp [h]
theorem atL_set {dir : List Ent} {n k : Nat} (h : k < n) : (atL dir n k).set k (.int .i64 (atv dir k)) = atL dir n (k + 1) := by
  apply List.ext_getElem?
  intro i
  by_cases hi : i < n
  · rw [atL_get hi, List.getElem?_set]
    by_cases hk : k = i
    · subst hk
      rw [if_pos rfl, if_pos (by unfold atL; simpa using h), if_pos (by omega)]
    · rw [if_neg hk, atL_get hi]
      congr 1
      by_cases h1 : i < k
      · rw [if_pos h1, if_pos (by omega)]
      · rw [if_neg h1, if_neg (by omega)]
  · rw [List.getElem?_eq_none (by simp [atL]; omega), List.getElem?_eq_none (by simp [atL]; omega)]
theorem own_Rds {w : World} {base n c s : Nat} {a : Option Addr} {T : TypeId} {xs : List Value} (h : w.ownsRow base T s (.slice a n c) n xs) : (n ≤ c ∧ c ≤ maxLen) ∧ Rd w a xs := by
  obtain ⟨a', c', hv, hc, hr⟩ := ownG_form h
  cases hv
  refine ⟨⟨hc, ?_⟩, hr⟩
  rcases h.2 with ⟨h1, -⟩ | ⟨g', cap', cur', h1, -, -, -, h5, -⟩
  · rw [(Value.slice.inj h1).2.2]; exact Nat.zero_le _
  · rw [(Value.slice.inj h1).2.2]; exact h5
/-- A new slice of one's own: a property that lasts. -/
def FreshSl (base n : Nat) (C : List Value) (t : TypeId) : Value → World → Prop := fun v w => ∃ g, v = .slice (some ⟨g, 0, none⟩) n n ∧ base ≤ g ∧ Blk w g C t
theorem stab_freshSl (base n : Nat) (C : List Value) (t : TypeId) : Stab (.p (FreshSl base n C t)) := fun u w w' hb ⟨g, h1, h2, h3⟩ => ⟨g, h1, h2, h3.below hb⟩
theorem freshSl_new {base n : Nat} {C : List Value} {t : TypeId} (w : World) (h : base ≤ w.heap.size) : FreshSl base n C t (.slice (some ⟨w.heap.size, 0, none⟩) n n) (w.alloc (.cells C.toArray t)) :=
  ⟨w.heap.size, rfl, h, Blk.new w C t⟩
theorem Blk.rd {w : World} {g : Nat} {C : List Value} {t : TypeId} (h : Blk w g C t) : Rd w (some ⟨g, 0, none⟩) C := by
  refine .inr ⟨g, 0, rfl, h.lt, fun k v hk => ?_⟩
  rw [Nat.zero_add]; exact h.cell hk
def mvE (dir : List Ent) (e : Ent) : Ent := (e.1, ((atM dir e.2.toNat : Nat) : Int))
theorem mv_take {dir l : List Ent} {k : Nat} {e : Ent} (h : l[k]? = some e) : ((l.take (k + 1)).map (mvE dir)).flatMap encE = ((l.take k).map (mvE dir)).flatMap encE ++ [mvE dir e].flatMap encE := by
  rw [List.take_add_one, h, List.map_append, List.flatMap_append]; rfl
theorem used_mem {dir : List Ent} {e : Ent} (h : e ∈ dir) {i : Nat} (hi : e.2 = (i : Int)) : atv dir i = ((atM dir i : Nat) : Int) := by
  unfold atv
  rw [if_pos]
  unfold usedM
  rw [List.any_eq_true]
  exact ⟨e, h, by simp [hi]⟩
/-- Two rows of one's own do not meet. -/
def Apart (v v' : Value) : Prop := ∀ q, v.ownBlock = some q → v'.ownBlock ≠ some q
set_option maxHeartbeats 16000000 in
set_option maxRecDepth 100000 in
theorem rsettle_any (v : Value) (d : Dsk) (w : World) (h : IsD w v d) (hs : szD d) (hdr : ∀ e ∈ d.dir, 0 ≤ e.2 ∧ e.2 < d.inodes.length) :
    Calls Try.prog 55 #[v] w fun e w' => ∃ u, e = .returned u ∧ IsD w' u (setM d) ∧ Below w.heap.size w w' := by
  obtain ⟨a1, n1, c1, a2, n2, c2, a3, n3, c3, a4, n4, c4, rfl, h1, h2, h3, h4, -⟩ := h.h
  have H1 := hide h1
  have H2 := hide h2
  have HDR := hide hdr
  have hn1 : n1 ≤ 100000 := by rw [h1.1]; exact hs.1
  have hn2 : n2 ≤ 100000 := by rw [h2.1]; exact hs.2.1
  clear h h1 h2 h3 h4 hs hdr
  obtain ⟨i0, hi0, hz0, hz1, hz2⟩ := info_parts info_inode
  obtain ⟨j0, hj0, hy0, hy1, hy2⟩ := info_parts info_entry
  obtain ⟨i2, hi2, hx0, hx1, hx2⟩ := info_parts info_int
  have hmk : ∀ (W : World), (Instr.makeSlice 22 (.int .i64 (n1 : Int)) (.int .i64 (n1 : Int))).run Try.prog W = .ok (.slice (some ⟨W.heap.size, 0, none⟩) n1 n1) (W.alloc (.cells (List.replicate n1 (.int .i64 0)).toArray 3)) := by
    intro W
    rw [run_make_nc (P := Try.prog) 22 3 i2 _ Try.underlying22 hi2 hx0 .i64 .i64 n1 n1 (Nat.le_refl _) (by rw [hx2]; omega) (by omega) W, hx1, Nat.mul_one]
    have e : madeCells (Value.int .i64 0).cells n1 = (List.replicate n1 (.int .i64 0)).toArray := made_arr (.int .i64 0) n1
    rw [e]
  clear hi2 hx0 hx1 hx2
  obtain ⟨W3, hW3⟩ : ∃ W3, W3 = (((w.alloc (.cells [.slice a1 n1 c1, .slice a2 n2 c2, .slice a3 n3 c3, .slice a4 n4 c4].toArray 27)).alloc (.cells [.slice none 0 0, .slice none 0 0, .slice none 0 0, .slice none 0 0].toArray 27)).alloc (.cells (List.replicate n1 (.int .i64 0)).toArray 3)).alloc (.cells [.slice none 0 0, .slice none 0 0, .slice none 0 0, .slice none 0 0].toArray 27) := ⟨_, rfl⟩
  have B0 := hide (show Blk W3 w.heap.size [.slice a1 n1 c1, .slice a2 n2 c2, .slice a3 n3 c3, .slice a4 n4 c4] 27 by rw [hW3]; exact (((Blk.new w _ _).alloc _).alloc _).alloc _)
  have B1 := hide (show Blk W3 (w.heap.size + 1) [.slice none 0 0, .slice none 0 0, .slice none 0 0, .slice none 0 0] 27 by rw [hW3]; exact ((Blk.newG (by simp) _ _).alloc _).alloc _)
  have B2 := hide (show Blk W3 (w.heap.size + 1 + 1) (atL d.dir n1 0) 3 by rw [hW3, atL_zero]; exact (Blk.newG (by simp) _ _).alloc _)
  have B3 := hide (show Blk W3 (w.heap.size + 1 + 1 + 1) [.slice none 0 0, .slice none 0 0, .slice none 0 0, .slice none 0 0] 27 by rw [hW3]; exact Blk.newG (by simp) _ _)
  have HB3 := hide (show Below w.heap.size w W3 by rw [hW3]; exact bl_alloc (bl_alloc (bl_alloc (bl_alloc (bl_refl w) _) _) _) _)
  have HW3 := hide hW3
  clear hW3
  go_enter Try.func55, Try.ntmps55
  go_wp2_with fail
  have HW := HW3.out
  simp only [List.toArray_replicate] at HW
  rw [← HW]
  clear HW HW3
  go_loopw [18] (fun kv wr => ∃ (k : Nat) (A : Option Addr) (m c : Nat), kv = .int .i64 (k : Int) ∧ k ≤ n1 ∧ Hid (Blk wr w.heap.size [.slice a1 n1 c1, .slice a2 n2 c2, .slice a3 n3 c3, .slice a4 n4 c4] 27) ∧ Hid (Blk wr (w.heap.size + 1) [.slice none 0 0, .slice none 0 0, .slice none 0 0, .slice none 0 0] 27) ∧ Hid (Blk wr (w.heap.size + 1 + 1) (atL d.dir n1 k) 3) ∧ Hid (Blk wr (w.heap.size + 1 + 1 + 1) [.slice A m c, .slice none 0 0, .slice none 0 0, .slice none 0 0] 27) ∧ Hid (wr.ownsRow (w.heap.size + 1 + 1 + 1 + 1) 33 2 (.slice A m c) m ((keptM d.dir 0 (d.inodes.take k)).flatMap encE)) ∧ Hid (m = atM d.dir k) ∧ Hid (Below w.heap.size w wr)) (fun kv _ => n1 - (intOf kv).toNat)
  case atStart => exact ⟨0, none, 0, 0, rfl, by omega, B0, B1, B2, B3, hide ⟨rfl, .inl ⟨rfl, rfl⟩⟩, hide rfl, HB3⟩
  case round =>
    clear B0 B1 B2 B3
    obtain ⟨k, A, m, c, rfl, hk, B0, B1, B2, B3, HO, HM, HB⟩ := hrel
    by_cases hlt : k < n1
    · obtain ⟨b, o, t, x, rfl, hbl, hx, e0, e1⟩ := (H1.out.below HB.out).at_ hlt
      have HX := hide hx
      have hkn : (k : Int) < (n1 : Int) := by omega
      have d0 : wr.cell? ⟨w.heap.size, 0, none⟩ = some _ := B0.out.cell rfl
      have d1 : wr.cell? ⟨w.heap.size, 1, none⟩ = some _ := B0.out.cell rfl
      have zk : wr.cell? ⟨w.heap.size + 1 + 1, k, none⟩ = some (.int .i64 0) := B2.out.cell (by rw [atL_get hlt, if_neg (by omega)])
      have m0 : wr.cell? ⟨w.heap.size + 1 + 1 + 1, 0, none⟩ = some _ := B3.out.cell rfl
      have l0 := B0.out.lt
      have l2 := B2.out.lt
      have l3 := B3.out.lt
      have f2 := B2.out.fr
      have f3 := B3.out.fr
      clear hx hbl
      go_wp2_with fail
      obtain ⟨W1, hW1⟩ : ∃ W1, W1 = (wr.setCell ⟨w.heap.size + 1 + 1, k, none⟩ (.int .i64 (-1))).alloc (.cells [.string (bstr t), .int .i64 x].toArray 33) := ⟨_, rfl⟩
      have C0 := hide (show Blk W1 w.heap.size _ _ by rw [hW1]; exact (B0.out.setne (by omega) _ _).alloc _)
      have C1 := hide (show Blk W1 (w.heap.size + 1) _ _ by rw [hW1]; exact (B1.out.setne (by omega) _ _).alloc _)
      have C2 := hide (show Blk W1 (w.heap.size + 1 + 1) _ _ by rw [hW1]; exact (B2.out.set _ _).alloc _)
      have C3 := hide (show Blk W1 (w.heap.size + 1 + 1 + 1) _ _ by rw [hW1]; exact (B3.out.setne (by omega) _ _).alloc _)
      have CX := hide (show Blk W1 wr.heap.size _ _ by rw [hW1]; exact Blk.newG (by simp) _ _)
      have CO := hide (show W1.ownsRow (w.heap.size + 1 + 1 + 1 + 1) 33 2 (.slice A m c) m _ by rw [hW1]; exact ownG_below (ownG_setlt HO.out (by omega) _ _) (bl_alloc (bl_refl _) _))
      have CB := hide (show Below w.heap.size w W1 by rw [hW1]; exact (bl_setG HB.out (by omega) _ _).alloc (by have := HB.out.size; simpa using this) _)
      have hxs : wr.heap.size < W1.heap.size := CX.out.lt
      have HW1 := hide hW1
      clear hW1
      rw [← HW1.out]
      obtain ⟨gx, hgx⟩ : ∃ gx, gx = wr.heap.size := ⟨_, rfl⟩
      rw [← hgx] at CX ⊢
      have l3x : w.heap.size + 1 + 1 + 1 < gx := by omega
      clear HW1 d0 d1 zk m0 l0 l2 l3 f2 f3 e0 e1 B0 B1 B2 B3 HO hxs hgx HB
      go_loopw [29] (fun jv ws => ∃ j : Nat, jv = .int .i64 (j : Int) ∧ j ≤ n2 ∧ Hid (Blk ws w.heap.size [.slice (some ⟨b, o, none⟩) n1 c1, .slice a2 n2 c2, .slice a3 n3 c3, .slice a4 n4 c4] 27) ∧ Hid (Blk ws (w.heap.size + 1) [.slice none 0 0, .slice none 0 0, .slice none 0 0, .slice none 0 0] 27) ∧ Hid (Blk ws (w.heap.size + 1 + 1) ((atL d.dir n1 k).set k (.int .i64 (if (d.dir.take j).any (fun e => e.2 == (k : Int)) = true then (m : Int) else -1))) 3) ∧ Hid (Blk ws (w.heap.size + 1 + 1 + 1) [.slice A m c, .slice none 0 0, .slice none 0 0, .slice none 0 0] 27) ∧ Hid (Blk ws gx [.string (bstr t), .int .i64 x] 33) ∧ Hid (ws.ownsRow (w.heap.size + 1 + 1 + 1 + 1) 33 2 (.slice A m c) m ((keptM d.dir 0 (d.inodes.take k)).flatMap encE)) ∧ Hid (Below w.heap.size w ws)) (fun jv _ => n2 - (intOf jv).toNat)
      case atStart => exact ⟨0, rfl, by omega, C0, C1, C2, C3, CX, CO, CB⟩
      case round =>
        clear C0 C1 C2 C3 CX CO CB
        obtain ⟨j, rfl, hj, C0, C1, C2, C3, CX, CO, CB⟩ := hrel
        by_cases hjt : j < n2
        · obtain ⟨b', o', s, y, rfl, hbl', hy, e0, e1⟩ := (H2.out.below CB.out).at_ hjt
          have hany := any_take hy (fun e => e.2 == (k : Int))
          have hjn : (j : Int) < (n2 : Int) := by omega
          obtain ⟨z, hz⟩ : ∃ z : Int, z = (if (d.dir.take j).any (fun e => e.2 == (k : Int)) = true then (m : Int) else -1) := ⟨_, rfl⟩
          have HZ := hide hz
          rw [← hz] at C2
          have zk : wr.cell? ⟨w.heap.size + 1 + 1, k, none⟩ = some (.int .i64 z) := C2.out.cell (by rw [List.getElem?_set, if_pos rfl, if_pos (by simpa [atL] using hlt)])
          have m0 : wr.cell? ⟨w.heap.size + 1 + 1 + 1, 0, none⟩ = some _ := C3.out.cell rfl
          have l2 := C2.out.lt
          have l3 := C3.out.lt
          have lx := CX.out.lt
          have f2 := C2.out.fr
          have HH := hide hany
          by_cases hyk : y = (k : Int)
          · have HYK := hide hyk
            subst hyk
            clear hy hbl' hz hany
            go_wp2
            go_roundw
            case rel =>
              refine ⟨j + 1, by go_num, by omega, hide ((C0.out.setne (by omega) _ _).alloc _), hide ((C1.out.setne (by omega) _ _).alloc _), ?_, hide ((C3.out.setne (by omega) _ _).alloc _), hide ((CX.out.setne (by omega) _ _).alloc _), hide (ownG_below (ownG_setlt CO.out (by omega) _ _) (bl_alloc (bl_refl _) _)), hide ((bl_setG CB.out (by omega) _ _).alloc (by have := CB.out.size; simpa using this) _)⟩
              rw [HH.out]
              have := (C2.out.set k (.int .i64 (m : Int))).alloc (.cells #[.string (bstr s), .int .i64 (k : Int)] 35)
              rw [List.set_set] at this
              exact hide (by simpa using this)
            case measure => simp [intOf]; omega
          · have hyk' : (y == (k : Int)) = false := by simpa using hyk
            clear hy hbl' hz hany hyk
            go_wp2
            go_roundw
            case rel =>
              refine ⟨j + 1, by go_num, by omega, hide (C0.out.alloc _), hide (C1.out.alloc _), ?_, hide (C3.out.alloc _), hide (CX.out.alloc _), hide (ownG_below CO.out (bl_alloc (bl_refl _) _)), hide (CB.out.alloc CB.out.size _)⟩
              rw [HH.out, hyk', Bool.or_false, ← HZ.out]
              exact C2.out.alloc _
            case measure => simp [intOf]; omega
        · obtain rfl : j = n2 := by omega
          have hu : (d.dir.take j).any (fun e => e.2 == (k : Int)) = usedM d.dir k := by rw [List.take_of_length_le (by rw [← H2.out.1]; exact Nat.le_refl _)]; rfl
          have hz : (if (d.dir.take j).any (fun e => e.2 == (k : Int)) = true then (m : Int) else -1) = atv d.dir k := by rw [hu, HM.out]; rfl
          rw [hz, atL_set hlt] at C2
          have hjn : ¬ (j : Int) < (j : Int) := by omega
          have zk : wr.cell? ⟨w.heap.size + 1 + 1, k, none⟩ = some (.int .i64 (atv d.dir k)) := C2.out.cell (by rw [atL_get hlt, if_pos (by omega)])
          have hkt := kept_take d.dir d.inodes 0 k _ HX.out
          rw [Nat.zero_add] at hkt
          have hst := at_succ d.dir k
          have HML := hide (show m ≤ n1 by have := at_le d.dir k; have := HM.out; omega)
          cases hus : usedM d.dir k with
          | false =>
            have hv : atv d.dir k = -1 := by unfold atv; rw [if_neg (by rw [hus]; decide)]
            rw [hv] at zk
            rw [hus, if_neg (by decide)] at hkt hst
            have HKT := hide hkt
            have HST := hide hst
            clear hkt hst hus hv hu hz
            go_wp2
            go_roundw
            case rel =>
              refine ⟨k + 1, A, m, c, by go_num, by omega, C0, C1, C2, C3, ?_, hide (by rw [HST.out, Nat.add_zero]; exact HM.out), CB⟩
              rw [HKT.out, List.append_nil]
              exact CO
            case measure => simp [intOf]; omega
          | true =>
            have hv : atv d.dir k = (m : Int) := by unfold atv; rw [if_pos hus, HM.out]
            rw [hv] at zk
            rw [hus, if_pos rfl] at hkt hst
            have HKT := hide hkt
            have HST := hide hst
            have hm1 : ((m : Int) == -1) = false := by rw [beq_eq_false_iff_ne]; omega
            have hm2 : ((m : Int) != -1) = true := by simp only [bne, hm1]; rfl
            have m0 : wr.cell? ⟨w.heap.size + 1 + 1 + 1, 0, none⟩ = some _ := C3.out.cell rfl
            have x0 : wr.cell? ⟨gx, 0, none⟩ = some _ := CX.out.cell rfl
            have x1 : wr.cell? ⟨gx, 1, none⟩ = some _ := CX.out.cell rfl
            have l3 := C3.out.lt
            have lx := CX.out.lt
            have hml := HML.out
            clear hkt hst hus hv hu hz
            go_wp2_with (at_builtin; go_loud (refine wpList_append_rd _ rfl (.tmp 50) (.tmp 52) 23 rfl (w.heap.size + 1 + 1 + 1 + 1) 33 i0 _ 2 24 Try.underlying23 hi0 hz0 hz1 hz2 rfl (by omega) _ _ _ rfl (ownG_below CO.out (bl_alloc (bl_refl _) _)) _ 1 _ ([(t, x)].flatMap encE) rfl rfl (rd_oneG (by simp) (t, x) _) (encE_one _) (by simp only [maxLen]; omega) (by omega) (by simp; omega) ?_); intro v7 w7 ho7 hg7 hat7; obtain ⟨A7, c7, e7, hc7, hr7⟩ := ownG_form ho7; obtain rfl := e7; have hg7' : (wr.alloc (.cells #[.string (bstr t), .int .i64 x] 33)).grownBy w7 (Value.slice A m c).ownBlock := hg7; have hq7 : ∀ q, (Value.slice A m c).ownBlock = some q → w.heap.size + 1 + 1 + 1 + 1 ≤ q := (fun q hq => (ownG_lt CO.out hq).1); have gr7 : ∀ g, g < w.heap.size + 1 + 1 + 1 + 1 → (Value.slice A m c).ownBlock ≠ some g := (fun g hg hq => (by have := hq7 g hq; omega)); have D0 := hide ((C0.out.alloc _).grown hg7' (gr7 _ (by omega))); have D1 := hide ((C1.out.alloc _).grown hg7' (gr7 _ (by omega))); have D2 := hide ((C2.out.alloc _).grown hg7' (gr7 _ (by omega))); have D3 := hide ((C3.out.alloc _).grown hg7' (gr7 _ (by omega))); have DB := hide (bl_grown (CB.out.alloc CB.out.size (.cells #[.string (bstr t), .int .i64 x] 33)) hg7' (fun q hq => by have := hq7 q hq; omega)); have m7 : w7.cell? ⟨w.heap.size + 1 + 1 + 1, 0, none⟩ = some _ := D3.out.cell rfl; have l7 := D3.out.lt; have f7 := D3.out.fr; have HO7 := hide ho7; clear hg7 hg7' hat7 hq7 gr7 ho7 hr7 C0 C1 C2 C3 CX CO CB zk m0 x0 x1 l3 lx)
            go_roundw
            case rel =>
              refine ⟨k + 1, A7, m + 1, c7, by go_num, by omega, hide (D0.out.setne (by omega) _ _), hide (D1.out.setne (by omega) _ _), hide (D2.out.setne (by omega) _ _), hide (D3.out.set _ _), hide ?_, hide (by rw [HST.out, HM.out]), hide (bl_setG DB.out (by omega) _ _)⟩
              rw [HKT.out, List.flatMap_append]
              exact ownG_setlt HO7.out (by omega) _ _
            case measure => simp [intOf]; omega
    · obtain rfl : k = n1 := by omega
      have hkn : ¬ (k : Int) < (k : Int) := by omega
      have d1 : wr.cell? ⟨w.heap.size, 1, none⟩ = some _ := B0.out.cell rfl
      rw [List.take_of_length_le (by rw [← H1.out.1]; exact Nat.le_refl _)] at HO
      go_wp2_with fail
      obtain ⟨G, hG⟩ : ∃ G, G = wr.heap.size := ⟨_, rfl⟩
      have h3G : w.heap.size + 1 + 1 + 1 < G := by rw [hG]; exact B3.out.lt
      have HQ1 := hide (show ∀ q, (Value.slice A m c).ownBlock = some q → q < G by intro q hq; rw [hG]; exact (ownG_lt HO.out hq).2)
      have HGS := hide (show G ≤ wr.heap.size by rw [hG]; exact Nat.le_refl _)
      clear hG
      go_loopw [59] (fun kv wr => ∃ (q : Nat) (A2 : Option Addr) (p2 : Nat) (A3 : Option Addr) (p3 : Nat), kv = .int .i64 (q : Int) ∧ q ≤ n2 ∧ Hid (Blk wr (w.heap.size + 1) [.slice none 0 0, .slice none 0 0, .slice none 0 0, .slice none 0 0] 27) ∧ Hid (Blk wr (w.heap.size + 1 + 1) (atL d.dir k k) 3) ∧ Hid (Blk wr (w.heap.size + 1 + 1 + 1) [.slice A m c, .slice A2 q p2, .slice A3 q p3, .slice none 0 0] 27) ∧ Hid (wr.ownsRow (w.heap.size + 1 + 1 + 1 + 1) 33 2 (.slice A m c) m ((keptM d.dir 0 d.inodes).flatMap encE)) ∧ Hid (wr.ownsRow G 35 2 (.slice A2 q p2) q (((d.dir.take q).map (mvE d.dir)).flatMap encE)) ∧ Hid (wr.ownsRow G 35 2 (.slice A3 q p3) q (((d.dir.take q).map (mvE d.dir)).flatMap encE)) ∧ Hid (Apart (.slice A2 q p2) (.slice A3 q p3)) ∧ Hid (G ≤ wr.heap.size) ∧ Hid (Below w.heap.size w wr)) (fun kv _ => n2 - (intOf kv).toNat)
      case atStart => exact ⟨0, none, 0, none, 0, rfl, by omega, B1, B2, B3, HO, hide ⟨rfl, .inl ⟨rfl, rfl⟩⟩, hide ⟨rfl, .inl ⟨rfl, rfl⟩⟩, hide (fun q h => by simp [Value.ownBlock] at h), HGS, HB⟩
      case round =>
        clear B0 B1 B2 B3 HO HB HGS d1
        obtain ⟨q, A2, p2, A3, p3, rfl, hq, B1, B2, B3, HO, HO2, HO3, HAP, HGS, HB⟩ := hrel
        by_cases hqt : q < n2
        · obtain ⟨b, o, s, y, rfl, hbl, hx, e0, e1⟩ := (H2.out.below HB.out).at_ hqt
          have hyr := HDR.out (s, y) (List.mem_of_getElem? hx)
          simp only [] at hyr
          obtain ⟨iy, rfl⟩ : ∃ iy : Nat, y = (iy : Int) := ⟨y.toNat, by omega⟩
          have hik : iy < k := by have := H1.out.1; omega
          have hav := used_mem (List.mem_of_getElem? hx) (i := iy) rfl
          have HMV := hide (mv_take (dir := d.dir) hx)
          have hmx : mvE d.dir (s, (iy : Int)) = (s, ((atM d.dir iy : Nat) : Int)) := by unfold mvE; simp
          rw [hmx] at HMV
          have hqn : (q : Int) < (n2 : Int) := by omega
          have hikn : (iy : Int) < (k : Int) := by omega
          obtain ⟨W1, hW1⟩ : ∃ W1, W1 = wr.alloc (.cells [.string (bstr s), .int .i64 (iy : Int)].toArray 35) := ⟨_, rfl⟩
          obtain ⟨gz, hgz⟩ : ∃ gz, gz = wr.heap.size := ⟨_, rfl⟩
          obtain ⟨am, ham⟩ : ∃ am, am = atM d.dir iy := ⟨_, rfl⟩
          rw [← ham] at HMV hav
          have C1 := hide (show Blk W1 (w.heap.size + 1) _ _ by rw [hW1]; exact B1.out.alloc _)
          have C2 := hide (show Blk W1 (w.heap.size + 1 + 1) _ _ by rw [hW1]; exact B2.out.alloc _)
          have C3 := hide (show Blk W1 (w.heap.size + 1 + 1 + 1) _ _ by rw [hW1]; exact B3.out.alloc _)
          have CZ := hide (show Blk W1 gz _ _ by rw [hW1, hgz]; exact Blk.new _ _ _)
          have hwb : Below wr.heap.size wr W1 := by rw [hW1]; exact bl_alloc (bl_refl _) _
          have CO := hide (ownG_below HO.out hwb)
          have CO2 := hide (ownG_below HO2.out hwb)
          have CO3 := hide (ownG_below HO3.out hwb)
          have CB1 := hide (HB.out.trans (hwb.mono HB.out.size))
          have HOZ := hide (show wr.ownsRow G 35 2 (.slice A2 q p2) q _ from HO2.out)
          have HOZ3 := hide (show wr.ownsRow G 35 2 (.slice A3 q p3) q _ from HO3.out)
          have HGZ := hide hgz
          have hgG : G ≤ gz := by rw [hgz]; exact HGS.out
          have HW1 := hide hW1
          have hz2 : (atL d.dir k k)[iy]? = some (.int .i64 (am : Int)) := by rw [atL_get hik, if_pos hik, hav]
          have HZ2 := hide hz2
          clear hbl hx hyr hav hmx hW1 ham hwb B1 B2 B3 HO HO2 HO3 HB hz2
          go_wp2_with fail
          rw [← HW1.out, ← hgz]
          clear hgz e0 e1
          have HCC := hide (fun (wx : World) (hC : CB W1.drew wx) => show wx.cell? ⟨w.heap.size + 1 + 1 + 1, 1, none⟩ = some (.slice A2 q p2) ∧ wx.cell? ⟨gz, 0, none⟩ = some (.string (bstr s)) ∧ wx.cell? ⟨gz, 1, none⟩ = some (.int .i64 (iy : Int)) ∧ wx.cell? ⟨w.heap.size + 1 + 1, iy, none⟩ = some (.int .i64 (am : Int)) from ⟨(C3.out.below hC.below).cell rfl, (CZ.out.below hC.below).cell rfl, (CZ.out.below hC.below).cell rfl, (C2.out.below hC.below).cell HZ2.out⟩)
          refine wp_region_K 11 (by kernel_rfl) (by kernel_rfl) (fun Q HQ => ?_)
          simp only [List.take_succ_cons, List.take_zero, List.map_cons, List.map_nil]
          repeat
            first | apply wpS_c rfl | apply wpS_gc rfl (guard_mk rfl rfl)
            focus
              intro ev wx hC hx
              (try simp [Op.operands, Call.operands, opndS, Slot.holds] at hx)
              obtain ⟨k0, k1, k2, k3⟩ := HCC.out wx hC
              go_simp
              try (first | exact rfl | exact ⟨Below.refl _ _, rfl⟩)
              done
            dsimp only [setS, List.set]
          refine wpS_p (R := FreshSl W1.heap.size 1 [.string (bstr s), .int .i64 (am : Int)] 35) rfl (stab_freshSl _ _ _ _) ?_ ?_
          focus
            intro ev wx hC hx
            (try simp [Op.operands, Call.operands, opndS, Slot.holds] at hx)
            go_simp
            exact ⟨bl_alloc (bl_refl _) _, freshSl_new wx hC.below.size⟩
          dsimp only [setS, List.set]
          refine wpS_nil (HQ _ fun w4 hC4 => ?_)
          simp only [closeS, List.drop_succ_cons, List.drop_zero, List.drop_nil]
          rintro v7x ⟨ge, rfl, hge, hbe⟩
          have HE := hide hbe
          have E1 := hide (C1.out.below hC4.below)
          have E2 := hide (C2.out.below hC4.below)
          have E3 := hide (C3.out.below hC4.below)
          have EZ := hide (CZ.out.below hC4.below)
          have EO := hide (ownG_below CO.out hC4.below)
          have EO2 := hide (ownG_below CO2.out hC4.below)
          have EO3 := hide (ownG_below CO3.out hC4.below)
          have EB1 := hide (CB1.out.trans (hC4.below.mono CB1.out.size))
          have HG4 := hide (show G ≤ w4.heap.size by have := EZ.out.lt; omega)
          have HNZ := hide (show (Value.slice A2 q p2).ownBlock ≠ some gz from fun h => by have := (ownG_lt HOZ.out h).2; have := HGZ.out; omega)
          clear hC4 HQ hbe
          go_wp2_with (at_builtin; go_loud (refine wpList_append_rd _ rfl (.tmp 64) (.tmp 73) 24 rfl G 35 j0 _ 2 24 Try.underlying24 hj0 hy0 hy1 hy2 rfl (by omega) _ _ _ rfl EO2.out _ 1 _ ([(s, (am : Int))].flatMap encE) rfl rfl HE.out.rd (encE_one _) (by simp only [maxLen]; omega) (by omega) HG4.out ?_); intro v7 w7 ho7 hg7 hat7; obtain ⟨A7, c7, e7, hc7, hr7⟩ := ownG_form ho7; obtain rfl := e7; have hg7' : w4.grownBy w7 (Value.slice A2 q p2).ownBlock := hg7; have hat7' : (Value.slice A7 (q + 1) c7).ownBlock = (Value.slice A2 q p2).ownBlock ∨ (Value.slice A7 (q + 1) c7).ownBlock = some w4.heap.size := hat7; have HAT := hide hat7'; have hq7 : ∀ q', (Value.slice A2 q p2).ownBlock = some q' → G ≤ q' ∧ q' < w4.heap.size := (fun q' hq' => ownG_lt EO2.out hq'); have gr7 : ∀ g, g < G → (Value.slice A2 q p2).ownBlock ≠ some g := (fun g hg hq' => (by have := (hq7 g hq').1; omega)); have D1 := hide (E1.out.grown hg7' (gr7 _ (by omega))); have D2 := hide (E2.out.grown hg7' (gr7 _ (by omega))); have D3 := hide (E3.out.grown hg7' (gr7 _ (by omega))); have DB := hide (bl_grown EB1.out hg7' (fun q' hq' => by have := hq7 q' hq'; omega)); have DG := hide (show G ≤ w7.heap.size from Nat.le_trans HG4.out hg7'.size); have DO := hide (ownG_grown EO.out hg7' (fun q' hq' h2 => by have := hq7 q' h2; have := HQ1.out q' hq'; omega)); have DO3 := hide (ownG_grown EO3.out hg7' (fun q' hq' h2 => HAP.out q' h2 hq')); have DZ := hide (EZ.out.grown hg7' (fun h2 => HNZ.out (h2 ▸ rfl))); have m7 : w7.cell? ⟨w.heap.size + 1 + 1 + 1, 1, none⟩ = some _ := D3.out.cell rfl; have l7 := D3.out.lt; have f7 := D3.out.fr; have HO7 := hide ho7; have HQ7 := hide hq7; clear hg7 hg7' hat7 hat7' hq7 gr7 ho7 hr7)
          obtain ⟨W2, hW2⟩ : ∃ W2, W2 = w7.setCell ⟨w.heap.size + 1 + 1 + 1, 1, none⟩ (.slice A7 (q + 1) c7) := ⟨_, rfl⟩
          have F1 := hide (show Blk W2 (w.heap.size + 1) _ _ by rw [hW2]; exact D1.out.setne (by omega) _ _)
          have F2 := hide (show Blk W2 (w.heap.size + 1 + 1) _ _ by rw [hW2]; exact D2.out.setne (by omega) _ _)
          have F3 := hide (show Blk W2 (w.heap.size + 1 + 1 + 1) _ _ by rw [hW2]; exact D3.out.set _ _)
          have FZ := hide (show Blk W2 gz _ _ by rw [hW2]; exact DZ.out.setne (by omega) _ _)
          have FO := hide (show W2.ownsRow _ 33 2 (.slice A m c) m _ by rw [hW2]; exact ownG_setlt DO.out (by omega) _ _)
          have FO2 := hide (show W2.ownsRow G 35 2 (.slice A7 (q + 1) c7) (q + 1) _ by rw [hW2]; exact ownG_setlt HO7.out (by omega) _ _)
          have FO3 := hide (show W2.ownsRow G 35 2 (.slice A3 q p3) q _ by rw [hW2]; exact ownG_setlt DO3.out (by omega) _ _)
          have FB1 := hide (show Below w.heap.size w W2 by rw [hW2]; exact bl_setG DB.out (by omega) _ _)
          have FG := hide (show G ≤ W2.heap.size by rw [hW2]; simpa using DG.out)
          have FAP := hide (show Apart (.slice A7 (q + 1) c7) (.slice A3 q p3) from fun q' h2 h3 => by
            rcases HAT.out with h | h
            · exact HAP.out q' (h ▸ h2) h3
            · rw [h] at h2
              injection h2 with h2
              have := (ownG_lt EO3.out h3).2
              omega)
          have HW2 := hide hW2
          rw [← hW2]
          clear hW2 m7 l7 f7 D1 D2 D3 DZ DO DO3 DB DG HO7 E1 E2 E3 EZ EO EO2 EO3 EB1 HG4 HW1 C1 C2 C3 CZ CO CO2 CO3 CB1
          have HCC2 := hide (fun (wx : World) (hC : CB W2.drew wx) => show wx.cell? ⟨w.heap.size + 1 + 1 + 1, 2, none⟩ = some (.slice A3 q p3) ∧ wx.cell? ⟨gz, 0, none⟩ = some (.string (bstr s)) ∧ wx.cell? ⟨gz, 1, none⟩ = some (.int .i64 (iy : Int)) ∧ wx.cell? ⟨w.heap.size + 1 + 1, iy, none⟩ = some (.int .i64 (am : Int)) from ⟨(F3.out.below hC.below).cell rfl, (FZ.out.below hC.below).cell rfl, (FZ.out.below hC.below).cell rfl, (F2.out.below hC.below).cell HZ2.out⟩)
          refine wp_region_K 11 (by kernel_rfl) (by kernel_rfl) (fun Q HQ => ?_)
          simp only [List.take_succ_cons, List.take_zero, List.map_cons, List.map_nil]
          repeat
            first | apply wpS_c rfl | apply wpS_gc rfl (guard_mk rfl rfl)
            focus
              intro ev wx hC hx
              (try simp [Op.operands, Call.operands, opndS, Slot.holds] at hx)
              obtain ⟨k0, k1, k2, k3⟩ := HCC2.out wx hC
              go_simp
              try (first | exact rfl | exact ⟨Below.refl _ _, rfl⟩)
              done
            dsimp only [setS, List.set]
          refine wpS_p (R := FreshSl W2.heap.size 1 [.string (bstr s), .int .i64 (am : Int)] 35) rfl (stab_freshSl _ _ _ _) ?_ ?_
          focus
            intro ev wx hC hx
            (try simp [Op.operands, Call.operands, opndS, Slot.holds] at hx)
            go_simp
            exact ⟨bl_alloc (bl_refl _) _, freshSl_new wx hC.below.size⟩
          dsimp only [setS, List.set]
          refine wpS_nil (HQ _ fun w5 hC5 => ?_)
          simp only [closeS, List.drop_succ_cons, List.drop_zero, List.drop_nil]
          rintro v7x ⟨ge, rfl, hge, hbe⟩
          have HE2 := hide hbe
          have P1 := hide (F1.out.below hC5.below)
          have P2 := hide (F2.out.below hC5.below)
          have P3 := hide (F3.out.below hC5.below)
          have PZ := hide (FZ.out.below hC5.below)
          have PO := hide (ownG_below FO.out hC5.below)
          have PO2 := hide (ownG_below FO2.out hC5.below)
          have PO3 := hide (ownG_below FO3.out hC5.below)
          have PB1 := hide (FB1.out.trans (hC5.below.mono FB1.out.size))
          have HG5 := hide (show G ≤ w5.heap.size by have := PZ.out.lt; omega)
          clear hC5 HQ hbe
          go_wp2_with (at_builtin; go_loud (refine wpList_append_rd _ rfl (.tmp 77) (.tmp 86) 24 rfl G 35 j0 _ 2 24 Try.underlying24 hj0 hy0 hy1 hy2 rfl (by omega) _ _ _ rfl PO3.out _ 1 _ ([(s, (am : Int))].flatMap encE) rfl rfl HE2.out.rd (encE_one _) (by simp only [maxLen]; omega) (by omega) HG5.out ?_); intro v8 w8 ho7 hg8 hat7; obtain ⟨A8, c8, e7, hc8, hr7⟩ := ownG_form ho7; obtain rfl := e7; have hg8' : w5.grownBy w8 (Value.slice A3 q p3).ownBlock := hg8; have hat7' : (Value.slice A8 (q + 1) c8).ownBlock = (Value.slice A3 q p3).ownBlock ∨ (Value.slice A8 (q + 1) c8).ownBlock = some w5.heap.size := hat7; have HAT2 := hide hat7'; have hq8 : ∀ q', (Value.slice A3 q p3).ownBlock = some q' → G ≤ q' ∧ q' < w5.heap.size := (fun q' hq' => ownG_lt PO3.out hq'); have gr8 : ∀ g, g < G → (Value.slice A3 q p3).ownBlock ≠ some g := (fun g hg hq' => (by have := (hq8 g hq').1; omega)); have R1 := hide (P1.out.grown hg8' (gr8 _ (by omega))); have R2 := hide (P2.out.grown hg8' (gr8 _ (by omega))); have R3 := hide (P3.out.grown hg8' (gr8 _ (by omega))); have RB := hide (bl_grown PB1.out hg8' (fun q' hq' => by have := hq8 q' hq'; omega)); have RG := hide (show G ≤ w8.heap.size from Nat.le_trans HG5.out hg8'.size); have RO := hide (ownG_grown PO.out hg8' (fun q' hq' h2 => by have := hq8 q' h2; have := HQ1.out q' hq'; omega)); have RO2 := hide (ownG_grown PO2.out hg8' (fun q' hq' h2 => FAP.out q' hq' h2)); have m8 : w8.cell? ⟨w.heap.size + 1 + 1 + 1, 2, none⟩ = some _ := R3.out.cell rfl; have l8 := R3.out.lt; have f8 := R3.out.fr; have HO8 := hide ho7; have HQ8 := hide hq8; clear hg8 hg8' hat7 hat7' hq8 gr8 ho7 hr7)
          go_roundw
          case rel =>
            refine ⟨q + 1, A7, c7, A8, c8, by go_num, by omega, hide (R1.out.setne (by omega) _ _), hide (R2.out.setne (by omega) _ _), hide (R3.out.set _ _), hide (ownG_setlt RO.out (by omega) _ _), hide ?_, hide ?_, hide ?_, hide (by simpa using RG.out), hide (bl_setG RB.out (by omega) _ _)⟩
            · rw [HMV.out]; exact ownG_setlt RO2.out (by omega) _ _
            · rw [HMV.out]; exact ownG_setlt HO8.out (by omega) _ _
            · intro q' h2 h3
              rcases HAT2.out with h | h
              · exact FAP.out q' h2 (h ▸ h3)
              · rw [h] at h3
                injection h3 with h3
                have := (ownG_lt PO2.out h2).2
                omega
          case measure => simp [intOf]; omega
        · obtain rfl : q = n2 := by omega
          have hqn : ¬ (q : Int) < (q : Int) := by omega
          have x0 : wr.cell? ⟨w.heap.size + 1 + 1 + 1, 0, none⟩ = some _ := B3.out.cell rfl
          have x1 : wr.cell? ⟨w.heap.size + 1 + 1 + 1, 1, none⟩ = some _ := B3.out.cell rfl
          have x2 : wr.cell? ⟨w.heap.size + 1 + 1 + 1, 2, none⟩ = some _ := B3.out.cell rfl
          have x3 : wr.cell? ⟨w.heap.size + 1 + 1 + 1, 3, none⟩ = some _ := B3.out.cell rfl
          have y0 : wr.cell? ⟨w.heap.size + 1, 0, none⟩ = some _ := B1.out.cell rfl
          have y1 : wr.cell? ⟨w.heap.size + 1, 1, none⟩ = some _ := B1.out.cell rfl
          have y2 : wr.cell? ⟨w.heap.size + 1, 2, none⟩ = some _ := B1.out.cell rfl
          have y3 : wr.cell? ⟨w.heap.size + 1, 3, none⟩ = some _ := B1.out.cell rfl
          have l1 := B1.out.lt
          have f1 := B1.out.fr
          go_wp2
          have Z4 := ((((B1.out.set 0 (.slice A m c)).set 1 (.slice A2 q p2)).set 2 (.slice A3 q p3)).set 3 (.slice none 0 0))
          obtain ⟨WF, hWF⟩ : ∃ WF, WF = ((((wr.setCell ⟨w.heap.size + 1, 0, none⟩ (.slice A m c)).setCell ⟨w.heap.size + 1, 1, none⟩ (.slice A2 q p2)).setCell ⟨w.heap.size + 1, 2, none⟩ (.slice A3 q p3)).setCell ⟨w.heap.size + 1, 3, none⟩ (.slice none 0 0)) := ⟨_, rfl⟩
          have hm := kept_len d.dir d.inodes k (by rw [← H1.out.1]; exact Nat.le_refl _)
          rw [List.take_of_length_le (by rw [← H1.out.1]; exact Nat.le_refl _)] at hm
          have hq2 : (d.dir.take q).map (mvE d.dir) = movM d.dir := by rw [List.take_of_length_le (by rw [← H2.out.1]; exact Nat.le_refl _)]; rfl
          have hql : q = (movM d.dir).length := by rw [H2.out.1]; simp [movM]
          have O1 : WF.ownsRow (w.heap.size + 1 + 1 + 1 + 1) 33 2 (.slice A m c) m ((keptM d.dir 0 d.inodes).flatMap encE) := by rw [hWF]; exact ownG_setlt (ownG_setlt (ownG_setlt (ownG_setlt HO.out (by omega) _ _) (by omega) _ _) (by omega) _ _) (by omega) _ _
          have O2 : WF.ownsRow G 35 2 (.slice A2 q p2) q (((d.dir.take q).map (mvE d.dir)).flatMap encE) := by rw [hWF]; exact ownG_setlt (ownG_setlt (ownG_setlt (ownG_setlt HO2.out (by omega) _ _) (by omega) _ _) (by omega) _ _) (by omega) _ _
          have O3 : WF.ownsRow G 35 2 (.slice A3 q p3) q (((d.dir.take q).map (mvE d.dir)).flatMap encE) := by rw [hWF]; exact ownG_setlt (ownG_setlt (ownG_setlt (ownG_setlt HO3.out (by omega) _ _) (by omega) _ _) (by omega) _ _) (by omega) _ _
          have OB : Below w.heap.size w WF := by rw [hWF]; exact bl_setG (bl_setG (bl_setG (bl_setG HB.out (by omega) _ _) (by omega) _ _) (by omega) _ _) (by omega) _ _
          rw [← hWF] at Z4 ⊢
          rw [hq2] at O2 O3
          refine bodyPost_ret (results_cell_row Try.results55 _ _ (w.heap.size + 1) 27 #[.slice A m c, .slice A2 q p2, .slice A3 q p3, .slice none 0 0] (0, 0) _ rfl Z4 Try.underlying27 rfl (by kernel_rfl)) rfl ?_
          obtain ⟨g1, g3⟩ := own_Rds O1
          obtain ⟨g4, g6⟩ := own_Rds O2
          obtain ⟨g7, g9⟩ := own_Rds O3
          exact ⟨_, rfl, ⟨⟨_, _, _, _, _, _, _, _, _, _, _, _, rfl, ⟨by rw [HM.out]; exact hm.symm, g3⟩, ⟨hql, g6⟩, ⟨hql, g9⟩, ⟨rfl, .inl rfl⟩, g1, g4, g7, Nat.le_refl _, Nat.zero_le _⟩⟩, OB⟩
end Go.Proofs.Ytjpmfiicbokdcaa
