/- The walk of the program's settle. -/
import Derived.Test.YtjpmfiicbokdcaaEaW
namespace Go.Proofs.Ytjpmfiicbokdcaa
open Go.RowKit
set_option linter.unusedVariables false
set_option linter.unusedSimpArgs false
def ivL (n : Nat) (f : Nat → Int) : List Value := (List.range n).map fun i => .int .i64 (f i)
theorem ivL_len (n : Nat) (f : Nat → Int) : (ivL n f).length = n := by simp [ivL]
theorem ivL_get {n i : Nat} {f : Nat → Int} (h : i < n) : (ivL n f)[i]? = some (.int .i64 (f i)) := by simp [ivL, h]
theorem ivL_set {n k : Nat} {f : Nat → Int} (x : Int) (h : k < n) : (ivL n f).set k (.int .i64 x) = ivL n (fun i => if i = k then x else f i) := by
  apply List.ext_getElem?
  intro i
  by_cases hi : i < n
  · rw [List.getElem?_set, ivL_get hi, ivL_get hi, ivL_len]
    by_cases hk : k = i
    · subst hk; rw [if_pos rfl, if_pos h, if_pos rfl]
    · rw [if_neg hk, if_neg (Ne.symm hk)]
  · rw [List.getElem?_eq_none (by rw [List.length_set, ivL_len]; omega), List.getElem?_eq_none (by rw [ivL_len]; omega)]
theorem ivL_congr {n : Nat} {f g : Nat → Int} (h : ∀ i, i < n → f i = g i) : ivL n f = ivL n g := by
  unfold ivL
  apply List.map_congr_left
  intro i hi
  rw [h i (List.mem_range.1 hi)]
theorem ivL_zero (n : Nat) : ivL n (fun _ => 0) = List.replicate n (.int .i64 0) := by
  apply List.ext_getElem?
  intro i
  by_cases hi : i < n
  · rw [ivL_get hi, List.getElem?_replicate, if_pos hi]
  · rw [List.getElem?_eq_none (by rw [ivL_len]; omega), List.getElem?_eq_none (by simp; omega)]
def mk1 (dir : List Ent) (i : Nat) : Int := if (dir.any fun e => e.2 == (i : Int)) = true then 1 else 0
def at2 (dir : List Ent) (k i : Nat) : Int := if usedM dir i = true then (if i < k then ((atM dir i : Nat) : Int) else 1) else 0
def mvK (dir : List Ent) (k : Nat) : List Ent := dir.mapIdx fun j e => if j < k then mvE dir e else e
theorem mvK_len (dir : List Ent) (k : Nat) : (mvK dir k).length = dir.length := by simp [mvK]
theorem mvK_get (dir : List Ent) (k j : Nat) : (mvK dir k)[j]? = (dir[j]?).map fun e => if j < k then mvE dir e else e := by simp [mvK, List.getElem?_mapIdx]
theorem mvK_zero (dir : List Ent) : mvK dir 0 = dir := by
  apply List.ext_getElem?
  intro i
  rw [mvK_get]
  simp
theorem mvK_all (dir : List Ent) (k : Nat) (h : dir.length ≤ k) : mvK dir k = movM dir := by
  apply List.ext_getElem?
  intro i
  rw [mvK_get]
  show _ = (dir.map (mvE dir))[i]?
  rw [List.getElem?_map]
  by_cases hi : i < dir.length
  · simp [show i < k by omega]
  · rw [List.getElem?_eq_none (by omega)]; rfl
theorem mvK_set {dir : List Ent} {k : Nat} {e : Ent} (h : dir[k]? = some e) : (mvK dir k).set k (mvE dir e) = mvK dir (k + 1) := by
  have hk : k < dir.length := (List.getElem?_eq_some_iff.1 h).1
  apply List.ext_getElem?
  intro i
  rw [List.getElem?_set, mvK_get, mvK_get, mvK_len]
  by_cases hi : k = i
  · subst hi
    rw [if_pos rfl, if_pos hk, h]
    simp
  · rw [if_neg hi]
    congr 1
    funext x
    by_cases h1 : i < k
    · rw [if_pos h1, if_pos (by omega)]
    · rw [if_neg h1, if_neg (by omega)]
theorem rd_oneEG {w : World} {g : Nat} (hg : g = w.heap.size) (e : Ent) (t : TypeId) : Rd (w.alloc (.cells #[.string (bstr e.1), .int .i64 e.2] t)) (some ⟨g, 0, none⟩) ([e].flatMap encE) := by
  subst hg; exact rd_one w e t
/-- A row beyond the disk's rows grows. -/
theorem OwD.grownL {w w' : World} {B H n1 p1 n2 p2 n3 p3 n4 p4 : Nat} {A1 A2 A3 A4 : Option Addr} {d : Dsk} {row : Option Nat} (h : OwD w B A1 n1 p1 A2 n2 p2 A3 n3 p3 A4 n4 p4 d) (hg : w.grownBy w' row)
    (hl : ∀ q, ((Value.slice A1 n1 p1).ownBlock = some q ∨ (Value.slice A2 n2 p2).ownBlock = some q ∨ (Value.slice A3 n3 p3).ownBlock = some q ∨ (Value.slice A4 n4 p4).ownBlock = some q) → B ≤ q ∧ q < H) (hr : ∀ q, row = some q → H ≤ q) : OwD w' B A1 n1 p1 A2 n2 p2 A3 n3 p3 A4 n4 p4 d :=
  ⟨ownG_grown h.o1 hg (fun q hq e => by have := (hl q (.inl hq)).2; have := hr q e; omega), ownG_grown h.o2 hg (fun q hq e => by have := (hl q (.inr (.inl hq))).2; have := hr q e; omega), ownG_grown h.o3 hg (fun q hq e => by have := (hl q (.inr (.inr (.inl hq)))).2; have := hr q e; omega), ownG_grown h.o4 hg (fun q hq e => by have := (hl q (.inr (.inr (.inr hq)))).2; have := hr q e; omega), h.e1, h.e2, h.e3, h.e4, h.ap⟩
/-- What settling yields. -/
theorem gr_set4 {w wr : World} {row : Option Nat} (h : w.grownBy wr row) {g : Nat} (hg : w.heap.size ≤ g) (q0 q1 q2 q3 : Value) : w.grownBy (set4 wr g q0 q1 q2 q3) row := gr_setG (gr_setG (gr_setG (gr_setG h hg _ _) hg _ _) hg _ _) hg _ _
def SetP (w : World) (B : Nat) (row : Option Nat) (d : Dsk) (e : Ending) (w' : World) : Prop := ∃ A1 n1 p1 A2 n2 p2 A3 n3 p3 A4 n4 p4, e = .returned (.agg #[.slice A1 n1 p1, .slice A2 n2 p2, .slice A3 n3 p3, .slice A4 n4 p4]) ∧ OwD w' B A1 n1 p1 A2 n2 p2 A3 n3 p3 A4 n4 p4 d ∧ w.grownBy w' row
set_option maxHeartbeats 16000000 in
set_option maxRecDepth 100000 in
theorem settle_any (B : Nat) (A1 : Option Addr) (n1 p1 : Nat) (A2 : Option Addr) (n2 p2 : Nat) (A3 : Option Addr) (n3 p3 : Nat) (A4 : Option Addr) (n4 p4 : Nat) (d : Dsk) (w : World) (h : OwD w B A1 n1 p1 A2 n2 p2 A3 n3 p3 A4 n4 p4 d) (hB : B ≤ w.heap.size) (hs : szD d) (hdr : inR d.inodes.length d.dir) :
    Calls Try.prog 51 #[.agg #[.slice A1 n1 p1, .slice A2 n2 p2, .slice A3 n3 p3, .slice A4 n4 p4]] w (SetP w B (Value.slice A2 n2 p2).ownBlock (setM d)) := by
  have HOW := hide h
  have hn1 : n1 ≤ 100000 := by rw [h.e1]; exact hs.1
  have hn2 : n2 ≤ 100000 := by rw [h.e2]; exact hs.2.1
  have HDR := hide (show ∀ (k : Nat) (e : Ent), d.dir[k]? = some e → ∃ j : Nat, e.2 = (j : Int) ∧ j < n1 from fun k e he => by
    have := hdr e (List.mem_of_getElem? he)
    rw [← h.e1] at this
    exact ⟨e.2.toNat, (Int.toNat_of_nonneg this.1).symm, by omega⟩)
  have HBB := hide hB
  obtain ⟨i2, hi2, hx0, hx1, hx2⟩ := info_parts info_int
  obtain ⟨i0, hi0, hz0, hz1, hz2⟩ := info_parts info_inode
  have hmk : ∀ (W : World), (Instr.makeSlice 22 (.int .i64 (n1 : Int)) (.int .i64 (n1 : Int))).run Try.prog W = .ok (.slice (some ⟨W.heap.size, 0, none⟩) n1 n1) (W.alloc (.cells (List.replicate n1 (.int .i64 0)).toArray 3)) := by
    intro W
    rw [run_make_nc (P := Try.prog) 22 3 i2 _ Try.underlying22 hi2 hx0 .i64 .i64 n1 n1 (Nat.le_refl _) (by rw [hx2]; omega) (by omega) W, hx1, Nat.mul_one]
    have e : madeCells (Value.int .i64 0).cells n1 = (List.replicate n1 (.int .i64 0)).toArray := made_arr (.int .i64 0) n1
    rw [e]
  clear h hs hdr hi2 hx0 hx1 hx2
  obtain ⟨W3, hW3⟩ : ∃ W3, W3 = ((w.alloc (.cells [.slice A1 n1 p1, .slice A2 n2 p2, .slice A3 n3 p3, .slice A4 n4 p4].toArray 27)).alloc (.cells [.slice none 0 0, .slice none 0 0, .slice none 0 0, .slice none 0 0].toArray 27)).alloc (.cells (List.replicate n1 (.int .i64 0)).toArray 3) := ⟨_, rfl⟩
  have B0 := hide (show Blk W3 w.heap.size [.slice A1 n1 p1, .slice A2 n2 p2, .slice A3 n3 p3, .slice A4 n4 p4] 27 by rw [hW3]; exact ((Blk.new w _ _).alloc _).alloc _)
  have B1 := hide (show Blk W3 (w.heap.size + 1) [.slice none 0 0, .slice none 0 0, .slice none 0 0, .slice none 0 0] 27 by rw [hW3]; exact (Blk.newG (by simp) _ _).alloc _)
  have B2 := hide (show Blk W3 (w.heap.size + 1 + 1) (ivL n1 (mk1 (d.dir.take 0))) 3 by
    rw [hW3]
    have : ivL n1 (mk1 (d.dir.take 0)) = List.replicate n1 (.int .i64 0) := by rw [← ivL_zero]; exact ivL_congr (fun i _ => by simp [mk1])
    rw [this]; exact Blk.newG (by simp) _ _)
  have BO := hide (show OwD W3 B A1 n1 p1 A2 n2 p2 A3 n3 p3 A4 n4 p4 d by rw [hW3]; exact ((HOW.out.below (bl_alloc (bl_refl _) _)).below (bl_alloc (bl_refl _) _)).below (bl_alloc (bl_refl _) _))
  have HB3 := hide (show Below w.heap.size w W3 by rw [hW3]; exact bl_alloc (bl_alloc (bl_alloc (bl_refl w) _) _) _)
  have HLT := hide (show ∀ q, ((Value.slice A1 n1 p1).ownBlock = some q ∨ (Value.slice A2 n2 p2).ownBlock = some q ∨ (Value.slice A3 n3 p3).ownBlock = some q ∨ (Value.slice A4 n4 p4).ownBlock = some q) → B ≤ q ∧ q < w.heap.size from fun q hq => by
    rcases hq with hq | hq | hq | hq
    · exact ownG_lt HOW.out.o1 hq
    · exact ownG_lt HOW.out.o2 hq
    · exact ownG_lt HOW.out.o3 hq
    · exact ownG_lt HOW.out.o4 hq)
  have HN1 := hide HOW.out.e1
  have HN2 := hide HOW.out.e2
  have HW3 := hide hW3
  clear hW3 HOW
  go_enter Try.func51, Try.ntmps51
  go_wp2_with fail
  have HW := HW3.out
  simp only [List.toArray_replicate] at HW
  rw [← HW]
  clear HW HW3
  go_loopw [17] (fun kv wr => ∃ (k : Nat), kv = .int .i64 (k : Int) ∧ k ≤ n2 ∧ Hid (Blk wr w.heap.size [.slice A1 n1 p1, .slice A2 n2 p2, .slice A3 n3 p3, .slice A4 n4 p4] 27) ∧ Hid (Blk wr (w.heap.size + 1) [.slice none 0 0, .slice none 0 0, .slice none 0 0, .slice none 0 0] 27) ∧ Hid (Blk wr (w.heap.size + 1 + 1) (ivL n1 (mk1 (d.dir.take k))) 3) ∧ Hid (OwD wr B A1 n1 p1 A2 n2 p2 A3 n3 p3 A4 n4 p4 d) ∧ Hid (Below w.heap.size w wr)) (fun kv _ => n2 - (intOf kv).toNat)
  case atStart => exact ⟨0, rfl, by omega, B0, B1, B2, BO, HB3⟩
  case round =>
    clear B0 B1 B2 BO HB3
    obtain ⟨k, rfl, hk, B0, B1, B2, BO, HB⟩ := hrel
    by_cases hlt : k < n2
    · obtain ⟨b, o, t, x, rfl, hbl, hx, e0, e1⟩ := (own_RE2 BO.out.o2 BO.out.e2).1.at_ hlt
      obtain ⟨j, hj, hjn⟩ := HDR.out k _ hx
      have hj' : x = (j : Int) := hj
      subst hj'
      have HX := hide hx
      have hkn : (k : Int) < (n2 : Int) := by omega
      have zk : wr.cell? ⟨w.heap.size + 1 + 1, j, none⟩ = some _ := B2.out.cell (ivL_get hjn)
      have l2 := B2.out.lt
      have f2 := B2.out.fr
      have hji : (j : Int) < (n1 : Int) := by omega
      have HLA := HLT.out
      clear hx hbl
      go_wp2
      go_roundw
      case rel =>
        have hle := HBB.out
        have ho : ∀ {T : TypeId} {s n : Nat} {v : Value} {xs : List Value} (hO : wr.ownsRow B T s v n xs) (hv : ∀ q, v.ownBlock = some q → q < w.heap.size), ((wr.setCell ⟨w.heap.size + 1 + 1, j, none⟩ (.int .i64 1)).alloc (.cells #[.string (bstr t), .int .i64 (j : Int)] 35)).ownsRow B T s v n xs := fun hO hv => ownG_below (ownG_setne hO (fun e => by have := hv _ e; omega) _ _) (bl_alloc (bl_refl _) _)
        refine ⟨k + 1, by go_num, by omega, hide ((B0.out.setne (by omega) _ _).alloc _), hide ((B1.out.setne (by omega) _ _).alloc _), hide ?_, hide ⟨ho BO.out.o1 (fun q hq => (HLA q (.inl hq)).2), ho BO.out.o2 (fun q hq => (HLA q (.inr (.inl hq))).2), ho BO.out.o3 (fun q hq => (HLA q (.inr (.inr (.inl hq)))).2), ho BO.out.o4 (fun q hq => (HLA q (.inr (.inr (.inr hq)))).2), BO.out.e1, BO.out.e2, BO.out.e3, BO.out.e4, BO.out.ap⟩, hide (bl_alloc (bl_setG HB.out (by omega) _ _) _)⟩
        have := (B2.out.set j (.int .i64 1)).alloc (.cells #[.string (bstr t), .int .i64 (j : Int)] 35)
        rw [ivL_set 1 hjn] at this
        have e : ivL n1 (fun i => if i = j then 1 else mk1 (d.dir.take k) i) = ivL n1 (mk1 (d.dir.take (k + 1))) := ivL_congr (fun i _ => by
          unfold mk1
          rw [any_take HX.out]
          simp only []
          by_cases hij : i = j
          · subst hij; simp
          · have : ((j : Int) == (i : Int)) = false := by rw [beq_eq_false_iff_ne]; omega
            rw [if_neg hij, this, Bool.or_false])
        rw [e] at this
        exact this
      case measure => simp [intOf]; omega
    · obtain rfl : n2 = k := by omega
      have hkn : ¬ (n2 : Int) < (n2 : Int) := by omega
      have hmk2 : ivL n1 (mk1 (d.dir.take n2)) = ivL n1 (at2 d.dir 0) := ivL_congr (fun i _ => by
        rw [List.take_of_length_le (by rw [← HN2.out]; exact Nat.le_refl _)]
        unfold mk1 at2 usedM
        split <;> simp)
      rw [hmk2] at B2
      have d0 : wr.cell? ⟨w.heap.size, 0, none⟩ = some _ := B0.out.cell rfl
      have HWS := hide (show w.heap.size + 1 + 1 < wr.heap.size from B2.out.lt)
      go_wp2_with fail
      obtain ⟨GB, hGB⟩ : ∃ GB, GB = wr.heap.size := ⟨_, rfl⟩
      have HK0 := hide (show wr.ownsRow GB 33 2 (.slice none 0 0) 0 ((keptM d.dir 0 (d.inodes.take 0)).flatMap encE) from ⟨rfl, .inl ⟨rfl, rfl⟩⟩)
      have HGB := hide (show GB ≤ wr.heap.size by omega)
      have hGBw : w.heap.size + 1 + 1 < GB := by rw [hGB]; exact HWS.out
      clear hGB hmk2 d0 HWS
      go_loopw [6, 29] (fun ov kv wr => ∃ (k : Nat) (A : Option Addr) (m c : Nat), kv = .int .i64 (k : Int) ∧ ov = .slice A m c ∧ k ≤ n1 ∧ Hid (Blk wr w.heap.size [.slice A1 n1 p1, .slice A2 n2 p2, .slice A3 n3 p3, .slice A4 n4 p4] 27) ∧ Hid (Blk wr (w.heap.size + 1) [.slice none 0 0, .slice none 0 0, .slice none 0 0, .slice none 0 0] 27) ∧ Hid (Blk wr (w.heap.size + 1 + 1) (ivL n1 (at2 d.dir k)) 3) ∧ Hid (OwD wr B A1 n1 p1 A2 n2 p2 A3 n3 p3 A4 n4 p4 d) ∧ Hid (wr.ownsRow GB 33 2 (.slice A m c) m ((keptM d.dir 0 (d.inodes.take k)).flatMap encE)) ∧ Hid (m = atM d.dir k) ∧ Hid (GB ≤ wr.heap.size) ∧ Hid (Below w.heap.size w wr)) (fun _ kv _ => n1 - (intOf kv).toNat)
      case atStart => exact ⟨0, none, 0, 0, rfl, rfl, by omega, B0, B1, B2, BO, HK0, hide rfl, HGB, HB⟩
      case round =>
        clear B0 B1 B2 BO HB HK0 HGB
        obtain ⟨k, A, m, c, rfl, rfl, hk, B0, B1, B2, BO, HKO, HM, HGB, HB⟩ := hrel
        have HLA := HLT.out
        by_cases hlt : k < n1
        · obtain ⟨b, o, t, x, rfl, hbl, hx, e0, e1⟩ := (own_RE2 BO.out.o1 BO.out.e1).1.at_ hlt
          have HX := hide hx
          have hkn : (k : Int) < (n1 : Int) := by omega
          have hkt := kept_take d.dir d.inodes 0 k _ hx
          rw [Nat.zero_add] at hkt
          have HKT := hide hkt
          have hst := at_succ d.dir k
          have HST := hide hst
          have hml : m ≤ 100000 := by have := at_le d.dir k; have := HM.out; omega
          have l2 := B2.out.lt
          have f2 := B2.out.fr
          cases hus : usedM d.dir k with
          | true =>
            have zk : wr.cell? ⟨w.heap.size + 1 + 1, k, none⟩ = some (.int .i64 1) := B2.out.cell (by rw [ivL_get hlt]; unfold at2; rw [if_pos hus, if_neg (by omega)])
            have HUS := hide hus
            rw [hus, if_pos rfl] at HKT HST
            clear hx hbl hkt hst hus
            have hS1 : ∀ {T : TypeId} {s n : Nat} {v : Value} {xs : List Value}, wr.ownsRow B T s v n xs → (∀ q, v.ownBlock = some q → q < w.heap.size) → ((wr.setCell ⟨w.heap.size + 1 + 1, k, none⟩ (.int .i64 (m : Int))).alloc (.cells #[.string (bstr t), .int .i64 x] 33)).ownsRow B T s v n xs := fun hO hv => ownG_below (ownG_setne hO (fun e => by have := hv _ e; omega) _ _) (bl_alloc (bl_refl _) _)
            have HOS := hide (show OwD ((wr.setCell ⟨w.heap.size + 1 + 1, k, none⟩ (.int .i64 (m : Int))).alloc (.cells #[.string (bstr t), .int .i64 x] 33)) B (some ⟨b, o, none⟩) n1 p1 A2 n2 p2 A3 n3 p3 A4 n4 p4 d from ⟨hS1 BO.out.o1 (fun q hq => (HLA q (.inl hq)).2), hS1 BO.out.o2 (fun q hq => (HLA q (.inr (.inl hq))).2), hS1 BO.out.o3 (fun q hq => (HLA q (.inr (.inr (.inl hq)))).2), hS1 BO.out.o4 (fun q hq => (HLA q (.inr (.inr (.inr hq)))).2), BO.out.e1, BO.out.e2, BO.out.e3, BO.out.e4, BO.out.ap⟩)
            have P0 := hide ((B0.out.setne (show w.heap.size ≠ w.heap.size + 1 + 1 by omega) k (.int .i64 (m : Int))).alloc (.cells #[.string (bstr t), .int .i64 x] 33))
            have P1 := hide ((B1.out.setne (show w.heap.size + 1 ≠ w.heap.size + 1 + 1 by omega) k (.int .i64 (m : Int))).alloc (.cells #[.string (bstr t), .int .i64 x] 33))
            have P2 := hide (show Blk ((wr.setCell ⟨w.heap.size + 1 + 1, k, none⟩ (.int .i64 (m : Int))).alloc (.cells #[.string (bstr t), .int .i64 x] 33)) (w.heap.size + 1 + 1) (ivL n1 (at2 d.dir (k + 1))) 3 by
              have := (B2.out.set k (.int .i64 (m : Int))).alloc (.cells #[.string (bstr t), .int .i64 x] 33)
              rw [ivL_set _ hlt] at this
              have e : ivL n1 (fun i => if i = k then (m : Int) else at2 d.dir k i) = ivL n1 (at2 d.dir (k + 1)) := ivL_congr (fun i _ => by
                unfold at2
                by_cases hik : i = k
                · subst hik
                  rw [if_pos rfl, if_pos HUS.out, if_pos (by omega), HM.out]
                · rw [if_neg hik]
                  by_cases h1 : i < k
                  · rw [if_pos h1, if_pos (show i < k + 1 by omega)]
                  · rw [if_neg h1, if_neg (show ¬ i < k + 1 by omega)])
              rw [e] at this
              exact this)
            have PK := hide (show ((wr.setCell ⟨w.heap.size + 1 + 1, k, none⟩ (.int .i64 (m : Int))).alloc (.cells #[.string (bstr t), .int .i64 x] 33)).ownsRow GB 33 2 (.slice A m c) m _ from ownG_below (ownG_setlt HKO.out (by omega) _ _) (bl_alloc (bl_refl _) _))
            have PB := hide (show Below w.heap.size w ((wr.setCell ⟨w.heap.size + 1 + 1, k, none⟩ (.int .i64 (m : Int))).alloc (.cells #[.string (bstr t), .int .i64 x] 33)) from bl_alloc (bl_setG HB.out (by omega) _ _) _)
            go_wp2_with (at_builtin; go_loud (refine wpList_append_rd _ rfl (.tmp 44) (.tmp 46) 23 rfl GB 33 i0 _ 2 24 Try.underlying23 hi0 hz0 hz1 hz2 rfl (by omega) _ _ _ rfl (ownG_below PK.out (bl_alloc (bl_refl _) _)) _ 1 _ ([(t, x)].flatMap encE) rfl rfl (rd_oneEG (by simp) (t, x) _) (encE_one _) (by simp only [maxLen]; omega) (by omega) (by have := HGB.out; simp; omega) ?_; intro v7 w7 ho7 hg7 hat7; obtain ⟨A7, c7, e7, hc7, hr7⟩ := ownG_form ho7; obtain rfl := e7; have hq7 : ∀ q', (Value.slice A m c).ownBlock = some q' → GB ≤ q' := (fun q' hq' => (ownG_lt PK.out hq').1); have gr7 : ∀ g, g < GB → (Value.slice A m c).ownBlock ≠ some g := (fun g hg hq' => (by have := hq7 g hq'; omega)); have Q0 := hide ((P0.out.alloc _).grown hg7 (gr7 _ (by omega))); have Q1 := hide ((P1.out.alloc _).grown hg7 (gr7 _ (by omega))); have Q2 := hide ((P2.out.alloc _).grown hg7 (gr7 _ (by omega))); have QB := hide (bl_grown (bl_alloc PB.out _) hg7 (fun q' hq' => by have := hq7 q' hq'; omega)); have QO := hide (OwD.grownL (HOS.out.below (bl_alloc (bl_refl _) _)) hg7 HLA (fun q' hq' => by have := hq7 q' hq'; omega)); have QG := hide (Nat.le_trans (show GB ≤ _ from (by have := HGB.out; simp; omega)) hg7.size); rw [← List.flatMap_append, ← HKT.out] at ho7; have QK := hide ho7; clear hg7 hat7 hq7 gr7 ho7 hr7))
            go_roundw
            case rel => exact ⟨k + 1, A7, m + 1, c7, by go_num, rfl, by omega, Q0, Q1, Q2, QO, QK, hide (by rw [HST.out, HM.out]), QG, QB⟩
            case measure => simp [intOf]; omega
          | false =>
            have zk : wr.cell? ⟨w.heap.size + 1 + 1, k, none⟩ = some (.int .i64 0) := B2.out.cell (by rw [ivL_get hlt]; unfold at2; rw [hus]; rfl)
            have HUS := hide hus
            rw [hus, if_neg (by decide), List.append_nil] at HKT
            rw [hus] at HST
            clear hx hbl hkt hst hus
            go_wp2
            go_roundw
            case rel =>
              refine ⟨k + 1, A, m, c, by go_num, rfl, by omega, hide (B0.out.alloc _), hide (B1.out.alloc _), hide ?_, hide (BO.out.below (bl_alloc (bl_refl _) _)), hide ?_, hide (by rw [HST.out, HM.out]; rfl), hide (by have := HGB.out; simp; omega), hide (bl_alloc HB.out _)⟩
              · have e : ivL n1 (at2 d.dir k) = ivL n1 (at2 d.dir (k + 1)) := ivL_congr (fun i _ => by
                  unfold at2
                  by_cases hik : i = k
                  · subst hik
                    rw [HUS.out]; rfl
                  · by_cases h1 : i < k
                    · rw [if_pos h1, if_pos (show i < k + 1 by omega)]
                    · rw [if_neg h1, if_neg (show ¬ i < k + 1 by omega)])
                rw [← e]; exact B2.out.alloc _
              · rw [HKT.out]; exact ownG_below HKO.out (bl_alloc (bl_refl _) _)
            case measure => simp [intOf]; omega
        · obtain rfl : n1 = k := by omega
          have hkn : ¬ (n1 : Int) < (n1 : Int) := by omega
          have d1 : wr.cell? ⟨w.heap.size, 1, none⟩ = some _ := B0.out.cell rfl
          go_wp2_with fail
          have HM2 := hide (show m = (keptM d.dir 0 d.inodes).length by
            have h := kept_len d.dir d.inodes n1 (by rw [← HN1.out]; exact Nat.le_refl _)
            rw [List.take_of_length_le (by rw [← HN1.out]; exact Nat.le_refl _)] at h
            rw [h]; exact HM.out)
          have HKO2 := hide (show wr.ownsRow GB 33 2 (.slice A m c) m ((keptM d.dir 0 d.inodes).flatMap encE) by
            have := HKO.out
            rw [List.take_of_length_le (by rw [← HN1.out]; exact Nat.le_refl _)] at this
            exact this)
          have HD0 := hide (show wr.ownsRow B 35 2 (.slice A2 n2 p2) n2 ((mvK d.dir 0).flatMap encE) by rw [mvK_zero]; exact BO.out.o2)
          have HBL := hide (show w.grownBy wr (Value.slice A2 n2 p2).ownBlock from grown_of_below _ HB.out)
          have HWS := hide (show w.heap.size + 1 + 1 < wr.heap.size from B2.out.lt)
          have HGW := hide HGB.out
          clear HKO HM BO HB d1 HGB
          go_loopw [52] (fun kv wr => ∃ (k : Nat), kv = .int .i64 (k : Int) ∧ k ≤ n2 ∧ Hid (Blk wr w.heap.size [.slice A1 n1 p1, .slice A2 n2 p2, .slice A3 n3 p3, .slice A4 n4 p4] 27) ∧ Hid (Blk wr (w.heap.size + 1) [.slice none 0 0, .slice none 0 0, .slice none 0 0, .slice none 0 0] 27) ∧ Hid (Blk wr (w.heap.size + 1 + 1) (ivL n1 (at2 d.dir n1)) 3) ∧ Hid (wr.ownsRow B 35 2 (.slice A2 n2 p2) n2 ((mvK d.dir k).flatMap encE)) ∧ Hid (wr.ownsRow GB 33 2 (.slice A m c) m ((keptM d.dir 0 d.inodes).flatMap encE)) ∧ Hid (w.grownBy wr (Value.slice A2 n2 p2).ownBlock)) (fun kv _ => n2 - (intOf kv).toNat)
          case atStart => exact ⟨0, rfl, by omega, B0, B1, B2, HD0, HKO2, HBL⟩
          case round =>
            clear B0 B1 B2 HD0 HKO2 HBL HWS HGW
            obtain ⟨k, rfl, hk, B0, B1, B2, HD0, HKO2, HBL⟩ := hrel
            by_cases hlt : k < n2
            · obtain ⟨⟨t, x⟩, hx⟩ : ∃ e, d.dir[k]? = some e := ⟨_, List.getElem?_eq_getElem (by rw [← HN2.out]; exact hlt)⟩
              obtain ⟨j, hj, hjn⟩ := HDR.out k _ hx
              have hj' : x = (j : Int) := hj
              subst hj'
              have hxk : (mvK d.dir k)[k]? = some (t, (j : Int)) := by rw [mvK_get, hx]; simp
              have HX := hide hx
              have HXK := hide hxk
              obtain ⟨g2, cur, rfl, hg2, -⟩ := ownG_inv HD0.out (by omega)
              obtain ⟨x1, fx1⟩ := ownG_at HD0.out (flat_get encE_len _ k 1 _ _ hxk rfl)
              have hus : usedM d.dir j = true := by
                unfold usedM
                rw [List.any_eq_true]
                exact ⟨_, List.mem_of_getElem? hx, by simp⟩
              have zj : wr.cell? ⟨w.heap.size + 1 + 1, j, none⟩ = some (.int .i64 ((atM d.dir j : Nat) : Int)) := B2.out.cell (by rw [ivL_get hjn]; unfold at2; rw [if_pos hus, if_pos hjn])
              have hg2w := (HLT.out g2 (.inr (.inl rfl))).2
              have hkn : (k : Int) < (n2 : Int) := by omega
              have hji : (j : Int) < (n1 : Int) := by omega
              have HCC := hide (fun (wx : World) (hC : CB wr.drew wx) => show wx.cell? ⟨w.heap.size, 1, none⟩ = some (.slice (some ⟨g2, 0, none⟩) n2 p2) ∧ wx.cell? ⟨g2, k * 2 + 1, none⟩ = some (.int .i64 (j : Int)) ∧ wx.cell? ⟨w.heap.size + 1 + 1, j, none⟩ = some (.int .i64 ((atM d.dir j : Nat) : Int)) from ⟨(B0.out.below hC.below).cell rfl, hC.cell x1, hC.cell zj⟩)
              clear hx hxk hus
              go_wp2_with fail
              refine wp_region_K 14 (by kernel_rfl) (by kernel_rfl) (fun Q HQ => ?_)
              simp only [List.take_succ_cons, List.take_zero, List.map_cons, List.map_nil]
              repeat
                first | apply wpS_c rfl | apply wpS_gc rfl (guard_mk rfl rfl)
                focus
                  intro ev wx hC hx
                  (try simp [Op.operands, Call.operands, opndS, Slot.holds] at hx)
                  obtain ⟨k0, k1, k2⟩ := HCC.out wx hC
                  go_simp
                  try (first | exact rfl | exact ⟨Below.refl _ _, rfl⟩)
                  done
                dsimp only [setS, List.set]
              refine wpS_nil (HQ _ fun w4 hC4 => ?_)
              simp only [closeS, List.drop_succ_cons, List.drop_zero, List.drop_nil]
              have hb4 := hC4.below
              have C0 := hide (B0.out.below hb4)
              have C1 := hide (B1.out.below hb4)
              have C2 := hide (B2.out.below hb4)
              have CD := hide (ownG_below HD0.out hb4)
              have CK := hide (ownG_below HKO2.out hb4)
              have HS4 := hide (show wr.heap.size ≤ w4.heap.size from hb4.size)
              have CL := hide (show w.grownBy w4 (some g2) from gr_below HBL.out hb4)
              clear hb4 hC4 HQ B0 B1 B2 HD0 HKO2 HBL x1 fx1 zj HCC
              obtain ⟨x1, fx1⟩ := ownG_at CD.out (flat_get encE_len _ k 1 _ _ HXK.out rfl)
              go_wp2
              go_roundw
              case rel =>
                have KD := ownG_set CD.out (k * 2 + 1) (.int .i64 ((atM d.dir j : Nat) : Int))
                rw [flat_set1 _ k _ _ HXK.out, show ((t, (j : Int)).1, ((atM d.dir j : Nat) : Int)) = mvE d.dir (t, (j : Int)) from rfl, mvK_set HX.out] at KD
                refine ⟨k + 1, by go_num, by omega, hide (C0.out.setne (by omega) _ _), hide (C1.out.setne (by omega) _ _), hide (C2.out.setne (by omega) _ _), hide KD, hide (ownG_setlt CK.out (by omega) _ _), hide (gr_setR CL.out _ _)⟩
              case measure => simp [intOf]; omega
            · obtain rfl : n2 = k := by omega
              have hkn : ¬ (n2 : Int) < (n2 : Int) := by omega
              rw [mvK_all d.dir n2 (by rw [← HN2.out]; exact Nat.le_refl _)] at HD0
              have hml : n2 = (movM d.dir).length := by rw [HN2.out]; simp [movM]
              have HML := hide hml
              obtain ⟨r2, b2⟩ := own_RE2 HD0.out hml
              have HR2 := hide r2
              clear hml r2 b2
              go_wp2_with fail
              have HCC := hide (fun (wx : World) (hC : CB wr.drew wx) => show wx.cell? ⟨w.heap.size, 1, none⟩ = some (.slice A2 n2 p2) from (B0.out.below hC.below).cell rfl)
              refine wp_region_K 6 (by kernel_rfl) (by kernel_rfl) (fun Q HQ => ?_)
              simp only [List.take_succ_cons, List.take_zero, List.map_cons, List.map_nil]
              repeat
                first | apply wpS_c rfl | apply wpS_gc rfl (guard_mk rfl rfl)
                focus
                  intro ev wx hC hx
                  (try simp [Op.operands, Call.operands, opndS, Slot.holds] at hx)
                  have k0 := HCC.out wx hC
                  go_simp
                  try (first | exact rfl | exact ⟨Below.refl _ _, rfl⟩)
                  done
                dsimp only [setS, List.set]
              refine wpS_p (R := FreshE wr.heap.size n2 ((movM d.dir).flatMap encE)) rfl (stab_freshE _ _ _) ?_ ?_
              focus
                intro ev wx hC hx
                (try simp [Op.operands, Call.operands, opndS, Slot.holds] at hx)
                go_simp
                refine (cloneE_any A2 n2 p2 (movM d.dir) wx (HR2.out.below hC.below) (by omega)).mono ?_
                rintro e w' ⟨v, rfl, hown, hb⟩
                exact ⟨v, rfl, hb, Nat.le_trans hC.below.size hb.size, own_baseG hown hC.below.size⟩
              dsimp only [setS, List.set]
              refine wpS_nil (HQ _ fun w4 hC4 => ?_)
              simp only [closeS, List.drop_succ_cons, List.drop_zero, List.drop_nil]
              rintro v75 ⟨-, h75⟩
              have hb4 := hC4.below
              have hap := apart_new HD0.out h75
              obtain ⟨A5, p5, rfl, -, -⟩ := ownG_form h75
              have hle := HBB.out
              have hBw : B ≤ wr.heap.size := Nat.le_trans hle (Nat.le_of_lt (Nat.lt_of_le_of_lt (by omega : w.heap.size ≤ w.heap.size + 1 + 1) B2.out.lt))
              have C1 := hide (B1.out.below hb4)
              have HOW := hide (show OwD w4 B A m c A2 n2 p2 A5 n2 p5 none 0 0 (setM d) from ⟨own_baseG (ownG_below HKO2.out hb4) (by omega), ownG_below HD0.out hb4, own_baseG h75 hBw, ⟨rfl, .inl ⟨rfl, rfl⟩⟩, HM2.out, HML.out, HML.out, rfl, hap⟩)
              have CL := hide (gr_below HBL.out hb4)
              clear hb4 hC4 HQ h75 hap HCC B0 B1 B2 HD0 HKO2 HBL
              have y0 : w4.cell? ⟨w.heap.size + 1, 0, none⟩ = some _ := C1.out.cell rfl
              have y1 : w4.cell? ⟨w.heap.size + 1, 1, none⟩ = some _ := C1.out.cell rfl
              have y2 : w4.cell? ⟨w.heap.size + 1, 2, none⟩ = some _ := C1.out.cell rfl
              have y3 : w4.cell? ⟨w.heap.size + 1, 3, none⟩ = some _ := C1.out.cell rfl
              have l1 := C1.out.lt
              have f1 := C1.out.fr
              go_wp2
              refine bodyPost_ret (results_cell_row Try.results51 _ _ (w.heap.size + 1) 27 #[.slice A m c, .slice A2 n2 p2, .slice A5 n2 p5, .slice none 0 0] (0, 0) _ rfl (C1.out.set4 _ _ _ _) Try.underlying27 rfl (by kernel_rfl)) rfl ?_
              exact ⟨_, _, _, _, _, _, _, _, _, _, _, _, rfl, HOW.out.set4 C1.out _ _ _ _, gr_set4 CL.out (by omega) _ _ _ _⟩
end Go.Proofs.Ytjpmfiicbokdcaa
