/- The walk of the law BitioRoundTrips. -/
import Derived.Test.YtimcbgcjnfdcaaaNewRW
import Derived.Test.YtimcbgcjnfdcaaaRtM
import Derived.Test.YtimcbgcjnfdcaaaAwW
namespace Go.Proofs.Ytimcbgcjnfdcaaa
open Go.RowKit
set_option linter.unusedVariables false
set_option linter.unusedSimpArgs false
theorem ownG_form {w : World} {base size : Nat} {e : TypeId} {v : Value} {n : Nat} {xs : List Value} (h : w.ownsRow base e size v n xs) : ∃ a c, v = .slice a n c ∧ n ≤ c ∧ Rd w a xs := by
  rcases h.2 with ⟨rfl, rfl⟩ | ⟨g, cap, cur, rfl, hb, hg, hn, _, _, ht⟩
  · refine ⟨none, 0, rfl, Nat.le_refl _, ?_⟩
    have := h.1
    rw [Nat.zero_mul] at this
    exact .inl (List.eq_nil_of_length_eq_zero this)
  · refine ⟨_, cap, rfl, hn, .inr ⟨g, 0, rfl, (Array.getElem?_eq_some_iff.1 hg).1, fun k v hk => ?_⟩⟩
    have := h.cells (g := g) rfl k v hk
    rwa [Addr.add_lit] at this
theorem ownG_blocks {w w' : World} {base size : Nat} {e : TypeId} {v : Value} {n : Nat} {xs : List Value} (h : w.ownsRow base e size v n xs) (hb : ∀ k, v.ownBlock = some k → w'.heap[k]? = w.heap[k]?) : w'.ownsRow base e size v n xs := by
  refine ⟨h.1, ?_⟩
  rcases h.2 with h | ⟨g', cap, cur, rfl, h2, h3, h4⟩
  · exact .inl h
  · exact .inr ⟨g', cap, cur, rfl, h2, (hb g' rfl).trans h3, h4⟩
theorem ownG_lt {w : World} {base size : Nat} {e : TypeId} {v : Value} {n : Nat} {xs : List Value} (h : w.ownsRow base e size v n xs) {k : Nat} (hk : v.ownBlock = some k) : base ≤ k ∧ k < w.heap.size := by
  rcases h.2 with ⟨rfl, _⟩ | ⟨g', cap, cur, rfl, h2, h3, h4⟩
  · simp [Value.ownBlock] at hk
  · simp [Value.ownBlock] at hk
    subst hk
    exact ⟨h2, (Array.getElem?_eq_some_iff.1 h3).1⟩
theorem ownG_below {w w' : World} {base size : Nat} {e : TypeId} {v : Value} {n : Nat} {xs : List Value} (h : w.ownsRow base e size v n xs) (hb : Below w.heap.size w w') : w'.ownsRow base e size v n xs :=
  ownG_blocks h fun k hk => hb.block k (ownG_lt h hk).2
theorem take_at' {α : Type} {l : List α} {k : Nat} {x : α} (h : l[k]? = some x) : l.take (k + 1) = l.take k ++ [x] := by
  rw [List.take_add_one, h]; rfl
def bitsOf (c : Int × Nat × Int) : List Bool := (wCall c.1 c.2.1 c.2.2).getD []
def outB (cs : List (Int × Nat × Int)) : List Bool := cs.flatMap bitsOf
theorem wCall_short (k : Int) (v : Nat) (n : Int) (h : v < 2 ^ 64) : ((wCall k v n).getD []).length ≤ 4200 := by
  have h1 := bl_64 v h
  unfold wCall
  split
  · unfold wBits
    split
    · simp [lowB_length]; omega
    · simp
  · split
    · unfold wUnary
      split
      · simp; omega
      · simp
    · split
      · unfold wGamma
        split
        · simp
        · have := gamB_length v h1; simp; omega
      · unfold wDelta
        split
        · simp
        · have := gamB_length (Lib.bitLen v) (bl_64 _ (by omega)); simp [lowB_length]; omega
def wantOf (c : Int × Nat × Int) : Nat := if c.1 = 1 then c.2.2.toNat else c.2.1
theorem rt_call (P R : List Bool) (c : Int × Nat × Int) (hv : c.2.1 < 2 ^ 64) (h : (wCall c.1 c.2.1 c.2.2).isSome = true) : readM (P ++ (bitsOf c ++ R)) P.length c.1 c.2.2 = (wantOf c, P.length + (bitsOf c).length, 0) := by
  obtain ⟨k, v, n⟩ := c
  obtain ⟨B, hB⟩ := Option.isSome_iff_exists.1 h
  have hb : bitsOf (k, v, n) = B := by unfold bitsOf; rw [hB]; rfl
  rw [hb]
  unfold readM wantOf
  unfold wCall at hB
  simp only at hB hv ⊢
  by_cases h0 : k = 0
  · rw [if_pos h0] at hB ⊢
    rw [if_neg (by omega)]
    exact rt_bits P R v n B hv hB
  rw [if_neg h0] at hB ⊢
  by_cases h1 : k = 1
  · rw [if_pos h1] at hB ⊢
    rw [if_pos h1]
    exact rt_unary P R n B hB
  rw [if_neg h1] at hB ⊢
  rw [if_neg h1]
  by_cases h2 : k = 2
  · rw [if_pos h2] at hB ⊢
    unfold wGamma at hB
    by_cases hz : v = 0
    · rw [if_pos hz] at hB; cases hB
    rw [if_neg hz] at hB
    injection hB with hB
    subst hB
    exact rt_gamma P R v hz hv
  rw [if_neg h2] at hB ⊢
  unfold wDelta at hB
  by_cases hz : v = 0
  · rw [if_pos hz] at hB; cases hB
  rw [if_neg hz] at hB
  injection hB with hB
  subst hB
  exact rt_delta P R v hz hv
theorem want_un (c : Int × Nat × Int) (h1 : c.1 = 1) (h : (wCall c.1 c.2.1 c.2.2).isSome = true) : 0 ≤ c.2.2 ∧ c.2.2 ≤ 4096 := by
  obtain ⟨k, v, n⟩ := c
  simp only at h1 h ⊢
  subst h1
  unfold wCall wUnary at h
  simp only [if_neg (show ¬ (1 : Int) = 0 by omega), if_true] at h
  by_cases hc : 0 ≤ n ∧ n ≤ 4096
  · exact hc
  · rw [if_neg hc] at h; cases h
theorem info_call : (Try.prog.info? 44).map (fun i => (i.zero, i.size, i.bytes)) = some (some (.agg #[.int .i64 0, .int .u64 0, .int .i64 0]), 3, 24) := by kernel_rfl
theorem outB_snoc (ds : List (Int × Nat × Int)) (c : Int × Nat × Int) : outB (ds ++ [c]) = outB ds ++ bitsOf c := by simp [outB]
theorem outB_split (ds : List (Int × Nat × Int)) (j : Nat) (c : Int × Nat × Int) (h : ds[j]? = some c) : outB ds = outB (ds.take j) ++ (bitsOf c ++ outB (ds.drop (j + 1))) := by
  obtain ⟨h1, h2⟩ := List.getElem?_eq_some_iff.1 h
  conv => lhs; rw [← List.take_append_drop j ds, List.drop_eq_getElem_cons h1, h2]
  simp [outB]
theorem cells_one (c : Int × Nat × Int) : ∀ u ∈ callCells c, u.oneCell' = true := by
  intro u hu
  simp [callCells] at hu
  rcases hu with rfl | rfl | rfl <;> rfl
namespace bitioRoundTrips
set_option maxHeartbeats 4000000 in
set_option maxRecDepth 100000 in
theorem walk (a : Option Addr) (len cap : Nat) (cs : List (Int × Nat × Int)) (w : World) (hcs : IsCalls w a len cs) :
    Calls Try.prog 12 #[.slice a len cap] w fun e w' => e = .returned (.bool true) ∧ Below w.heap.size w w' := by
  have HC := hide hcs
  clear hcs
  obtain ⟨i0, hi0, hz0, hz1, hz2⟩ := info_parts info_call
  go_enter Try.func12, Try.ntmps12
  go_wp2_with fail
  refine (newwriter_any w).mono ?_
  rintro e w1 ⟨rfl, hs1, hb1⟩
  have HS1 := hide hs1
  have HB1 := hide hb1
  clear hs1 hb1
  by_cases h12 : 12 < len
  · go_wp2
    go_ret
    exact ⟨rfl, HB1.out⟩
  go_wp2_with fail
  go_loopw [4, 24] (fun s i wr => ∃ (k : Nat) (ds : List (Int × Nat × Int)) (r : Option Nat), i = .int .i64 (k : Int) ∧ k ≤ len ∧ ds.length ≤ k ∧ Hid (∀ d ∈ ds, d.2.1 < 2 ^ 64 ∧ (wCall d.1 d.2.1 d.2.2).isSome = true) ∧ (outB ds).length ≤ k * 4200 ∧ Hid (WrS wr w.heap.size w.heap.size r (outB ds)) ∧ Hid (wr.ownsRow w.heap.size 44 3 s ds.length (ds.flatMap callCells)) ∧ Hid (Below w.heap.size w wr) ∧ Hid (s.ownBlock ≠ some w.heap.size ∧ ∀ j, s.ownBlock = some j → r ≠ some j)) (fun _ i _ => len - (intOf i).toNat)
  case atStart => exact ⟨0, [], none, rfl, Nat.zero_le _, Nat.le_refl _, hide (fun d hd => by simp at hd), Nat.zero_le _, HS1, hide ⟨rfl, .inl ⟨rfl, rfl⟩⟩, HB1, hide ⟨by simp [Value.ownBlock], fun j h => by simp⟩⟩
  case round =>
    obtain ⟨k, ds, r, rfl, hk, hdl, HD, hol, HS, HO, HB, HNE⟩ := hrel
    by_cases hlt : k < len
    · obtain ⟨b, o, ⟨c0, c1, c2⟩, rfl, hbl, hck, hc1, e0, e1, e2⟩ := (HC.out.below HB.out).at_ hlt
      simp only [] at hc1 e0 e1 e2
      have HC1 := hide hc1
      clear hc1 hck
      obtain ⟨W1, hW1⟩ : ∃ W, W = wr.alloc (.cells #[.int .i64 c0, .int .u64 (c1 : Int), .int .i64 c2] 44) := ⟨_, rfl⟩
      have hbl1 : Below wr.heap.size wr W1 := by rw [hW1]; exact bl_alloc (bl_refl wr) _
      have hsz1 : W1.heap.size = wr.heap.size + 1 := by rw [hW1]; simp
      have hcell : ∀ j v, (callCells (c0, c1, c2))[j]? = some v → W1.cell? ⟨wr.heap.size, j, none⟩ = some v := fun j v hv => by
        rw [hW1, cell_of_row _ _ j _ _ (0, 0) (heap_alloc_new wr _)]
        simpa [callCells] using hv
      have hbs1 : w.heap.size ≤ W1.heap.size := Nat.le_trans HB.out.size hbl1.size
      have HS1' := hide (HS.out.below hbl1)
      have HO1 := hide (ownG_below HO.out hbl1)
      go_wp2_with fail
      rw [← hW1]
      refine (lwrite_any w.heap.size w.heap.size r (outB ds) c0 c1 c2 c1 W1 rfl HC1.out HS1'.out (by omega) hbs1).mono ?_
      rintro e w3 ⟨rfl, hst⟩
      obtain ⟨r3, hs3, hc3, hr3⟩ := hst
      have hrw : ∀ j, r = some j → j < wr.heap.size := fun j hj => (HS.out.lt.2.2 j hj).2
      have hgw : w.heap.size < wr.heap.size := HS.out.lt.1
      have hblk : w3.heap[wr.heap.size]? = W1.heap[wr.heap.size]? := hc3.block _ (by omega) (by omega) (fun e => by have := hrw _ e.symm; omega)
      have d0 : w3.cell? ⟨wr.heap.size, 0, none⟩ = some (.int .i64 c0) := (World.cell?_of_block hblk).trans (hcell 0 _ rfl)
      have d1 : w3.cell? ⟨wr.heap.size, 1, none⟩ = some (.int .u64 (c1 : Int)) := (World.cell?_of_block hblk).trans (hcell 1 _ rfl)
      have d2 : w3.cell? ⟨wr.heap.size, 2, none⟩ = some (.int .i64 c2) := (World.cell?_of_block hblk).trans (hcell 2 _ rfl)
      have HO3 := hide (ownG_blocks HO1.out (fun j hj => hc3.block j (ownG_lt HO1.out hj).2 (fun e => HNE.out.1 (by rw [hj, e])) (fun e => HNE.out.2 j hj e.symm)))
      have HB3 := hide ((HB.out.trans (hbl1.mono HB.out.size)).trans (hc3.below (Nat.le_refl _) (fun k hk => (HS.out.lt.2.2 k hk).1) hbs1))
      have hsz3 : W1.heap.size ≤ w3.heap.size := hc3.size
      have HNE3 : Hid (u4.ownBlock ≠ some w.heap.size ∧ ∀ j, u4.ownBlock = some j → r3 ≠ some j) := hide ⟨HNE.out.1, fun j hj e => by
        rcases hr3 with h | ⟨m, h, hm⟩
        · exact HNE.out.2 j hj (by rw [← h]; exact e)
        · have h5 := (ownG_lt HO.out hj).2
          rw [h] at e; injection e with e; omega⟩
      have HS3 := hide hs3
      have hol3 := wCall_short c0 c1 c2 HC1.out
      have HBO := hide (show bitsOf (c0, c1, c2) = (wCall c0 c1 c2).getD [] from rfl)
      clear hs3 hc3 hr3 hblk hcell hbl1 HS1' HO1 hW1
      cases ho : wCall c0 c1 c2 with
      | none =>
        rw [ho] at HS3
        simp only [Option.getD, List.append_nil] at HS3
        have HS4 := HS3
        clear ho HBO hol3
        simp only [cod, Option.isSome_none]
        go_wp2
        go_roundw
        case rel => exact ⟨k + 1, ds, r3, by go_num, by omega, by omega, HD, by omega, HS4, HO3, HB3, HNE3⟩
        case measure => simp [intOf]; omega
      | some B =>
        rw [ho] at HS3 HBO hol3
        simp only [Option.getD] at HS3 hol3
        have hbB : bitsOf (c0, c1, c2) = B := HBO.out
        have HS4 : Hid (WrS w3 w.heap.size w.heap.size r3 (outB (ds ++ [(c0, c1, c2)]))) := hide (by rw [outB_snoc, hbB]; exact HS3.out)
        have hol4 : (outB (ds ++ [(c0, c1, c2)])).length ≤ (k + 1) * 4200 := by rw [outB_snoc, hbB, List.length_append]; omega
        have HD4 : Hid (∀ d ∈ ds ++ [(c0, c1, c2)], d.2.1 < 2 ^ 64 ∧ (wCall d.1 d.2.1 d.2.2).isSome = true) := hide fun d hd => by
          rcases List.mem_append.1 hd with h | h
          · exact HD.out d h
          · rw [List.mem_singleton.1 h]
            exact ⟨HC1.out, by show (wCall c0 c1 c2).isSome = true; rw [ho]; rfl⟩
        clear ho HBO HS3 hbB hol3
        simp only [cod, Option.isSome_some, if_true]
        have hdl12 : ds.length ≤ 12 := by omega
        have HLD := hide (show (callCells (c0, c1, c2)).length = 1 * 3 from rfl)
        go_wp2_with (at_builtin; go_loud (refine wpList_append_rd _ rfl (.tmp 32) (.tmp 34) 41 rfl w.heap.size 44 i0 _ 3 24 Try.underlying41 hi0 hz0 hz1 hz2 rfl (by omega) u4 ds.length (ds.flatMap callCells) rfl (ownG_below HO3.out (bl_alloc (bl_refl w3) _)) _ 1 _ (callCells (c0, c1, c2)) rfl HLD.out (rd_lit w3 _ _ _) (cells_one _) (by simp only [maxLen]; omega) (by omega) (by simp; omega) ?_); intro v5 w5 ho5 hg5 hat5)
        have hw4 : w3.heap.size + 1 = (w3.alloc (.cells #[.int .i64 c0, .int .u64 (c1 : Int), .int .i64 c2] 44)).heap.size := by simp
        have HWA := hide (HS4.out.below (bl_alloc (bl_refl w3) (.cells #[.int .i64 c0, .int .u64 (c1 : Int), .int .i64 c2] 44)))
        have HS5 := hide (HWA.out.keep (hg5.block _ (by have := HWA.out.lt.1; exact this) (fun e => HNE3.out.1 e.symm)) (fun j hj => hg5.block j (HWA.out.lt.2.2 j hj).2 (fun e => HNE3.out.2 j e.symm hj)))
        have HO5 : Hid (w5.ownsRow w.heap.size 44 3 v5 (ds ++ [(c0, c1, c2)]).length ((ds ++ [(c0, c1, c2)]).flatMap callCells)) := hide (by
          rw [List.length_append, List.flatMap_append]
          simpa using ho5)
        have HB5 := hide (bl_grown (bl_alloc HB3.out (.cells #[.int .i64 c0, .int .u64 (c1 : Int), .int .i64 c2] 44)) hg5 (fun j hj => (ownG_lt HO3.out hj).1))
        have HNE5 : Hid (v5.ownBlock ≠ some w.heap.size ∧ ∀ j, v5.ownBlock = some j → r3 ≠ some j) := hide (by
          rcases hat5 with h | h
          · rw [h]; exact HNE3.out
          · rw [h]
            refine ⟨fun e => ?_, fun j hj e => ?_⟩
            · injection e with e
              have := HS4.out.lt.1
              omega
            · injection hj with hj
              have := (HS4.out.lt.2.2 j e).2
              omega)
        clear ho5 hg5 hat5
        go_roundw
        case rel => exact ⟨k + 1, ds ++ [(c0, c1, c2)], r3, by go_num, by omega, by simp; omega, HD4, hol4, HS5, HO5, HB5, HNE5⟩
        case measure => simp [intOf]; omega
    · obtain rfl : k = len := by omega
      obtain ⟨n, hn⟩ : ∃ n, n = (outB ds).length := ⟨_, rfl⟩
      have hn5 : n ≤ 60000 := by omega
      have HN := hide hn
      obtain ⟨m, hm⟩ : ∃ m, m = (packL (outB ds)).length := ⟨_, rfl⟩
      have hmn : m = nby n := by rw [hm, packL_length, hn]
      have hm1 : m ≤ 10000 := by rw [hmn]; unfold nby; omega
      have hm8 : n ≤ 8 * m := by rw [hmn]; unfold nby; omega
      have HM := hide hm
      have hsz : w.heap.size ≤ wr.heap.size := HB.out.size
      clear hm hmn hn hol hlt hk
      generalize wr = wA at *
      go_wp2_with fail
      refine (wbytes_any w.heap.size w.heap.size r (outB ds) wA HS.out (by rw [← HN.out]; omega) hsz).mono ?_
      rintro e w6 ⟨v6, rfl, ho6, hb6⟩
      rw [← HM.out] at ho6
      obtain ⟨y1, A6, c6, rfl, hc6, hrd6, y2, y3⟩ := own_form ho6
      have HRD6 := hide (show BRd w6 A6 (packL (outB ds)) from hrd6)
      have HS6 := hide (HS.out.below hb6)
      have HO6 := hide (ownG_below HO.out hb6)
      have HB6 := hide (HB.out.trans (hb6.mono hsz))
      have s6 : wA.heap.size ≤ w6.heap.size := hb6.size
      clear y1 y2 y3 hrd6 ho6 hb6
      go_wp2_with fail
      refine (wlen_any w.heap.size w.heap.size r (outB ds) w6 HS6.out (by rw [← HN.out]; omega)).mono ?_
      rintro e w' ⟨rfl, rfl⟩
      rw [← HN.out]
      go_wp2_with fail
      refine (newreader_any A6 m c6 (packL (outB ds)) (n : Int) w6 HM.out hc6 hm1 HRD6.out ⟨by omega, by omega⟩).mono ?_
      rintro e w7 ⟨gr, rfl, hgr, hrs7, hb7⟩
      rw [Int.toNat_natCast, show unpackL (packL (outB ds)) n = outB ds by rw [HN.out]; exact unpack_pack _] at hrs7
      have HR7 := hide hrs7
      have HB7 := hide hb7
      obtain ⟨A, cd, rfl, hcd, hrdd⟩ := ownG_form HO6.out
      have HCD := hide (show IsCalls w6 A ds.length ds from ⟨rfl, fun c hc => (HD.out c hc).1, hrdd⟩)
      have hdl' : ds.length ≤ 12 := by omega
      obtain ⟨nd, hnd⟩ : ∃ nd, nd = ds.length := ⟨_, rfl⟩
      have HND := hide hnd
      rw [← hnd] at HCD hdl'
      rw [← hnd]
      have s67 : w6.heap.size ≤ w7.heap.size := hb7.size
      clear hrs7 hb7 hrdd hcd hnd
      go_wp2_with fail
      go_loopw [53] (fun i wr => ∃ j : Nat, i = .int .i64 (j : Int) ∧ j ≤ nd ∧ Hid (RdS wr w6.heap.size gr (outB ds) (outB (ds.take j)).length) ∧ Hid (Below w6.heap.size w6 wr)) (fun i _ => nd - (intOf i).toNat)
      case atStart => exact ⟨0, rfl, Nat.zero_le _, hide (by simpa [outB] using HR7.out), HB7⟩
      case round =>
        obtain ⟨j, rfl, hj, HR, HBj⟩ := hrel
        by_cases hlt : j < nd
        · obtain ⟨b, o, ⟨c0, c1, c2⟩, rfl, hbl, hck, hc1, e0, e1, e2⟩ := (HCD.out.below HBj.out).at_ hlt
          simp only [] at hc1 e0 e1 e2
          have hji : (j : Int) < (nd : Int) := by omega
          have hok := (HD.out _ (List.mem_of_getElem? hck)).2
          have hsp := outB_split ds j _ hck
          have HRT := hide (show readM (outB ds) (outB (ds.take j)).length c0 c2 = (wantOf (c0, c1, c2), (outB (ds.take (j + 1))).length, 0) by
            have h1 := rt_call (outB (ds.take j)) (outB (ds.drop (j + 1))) (c0, c1, c2) hc1 hok
            rw [← hsp] at h1
            rw [h1, take_at' hck, outB_snoc, List.length_append])
          have HWN := hide (show wantOf (c0, c1, c2) = if c0 = 1 then c2.toNat else c1 from rfl)
          have HUN := hide (fun h : c0 = 1 => want_un (c0, c1, c2) h hok)
          clear hck hc1 hok hsp
          obtain ⟨W1, hW1⟩ : ∃ W, W = wr.alloc (.cells #[.int .i64 c0, .int .u64 (c1 : Int), .int .i64 c2] 44) := ⟨_, rfl⟩
          have hbl1 : Below wr.heap.size wr W1 := by rw [hW1]; exact bl_alloc (bl_refl wr) _
          have hsz1 : W1.heap.size = wr.heap.size + 1 := by rw [hW1]; simp
          have hcell : ∀ j v, (callCells (c0, c1, c2))[j]? = some v → W1.cell? ⟨wr.heap.size, j, none⟩ = some v := fun j v hv => by
            rw [hW1, cell_of_row _ _ j _ _ (0, 0) (heap_alloc_new wr _)]
            simpa [callCells] using hv
          have HR1 := hide (HR.out.below hbl1)
          have hgl := HR.out.lt
          go_wp2_with fail
          rw [← hW1]
          refine (lread_any w6.heap.size gr (outB ds) _ c0 c1 c2 W1 HR1.out).mono ?_
          rintro e w8 ⟨rfl, hgo⟩
          rw [HRT.out] at hgo ⊢
          have hblk : w8.heap[wr.heap.size]? = W1.heap[wr.heap.size]? := hgo.2.2.2.2.2 _ (by omega) (by omega)
          have d0 : w8.cell? ⟨wr.heap.size, 0, none⟩ = some (.int .i64 c0) := (World.cell?_of_block hblk).trans (hcell 0 _ rfl)
          have d1 : w8.cell? ⟨wr.heap.size, 1, none⟩ = some (.int .u64 (c1 : Int)) := (World.cell?_of_block hblk).trans (hcell 1 _ rfl)
          have d2 : w8.cell? ⟨wr.heap.size, 2, none⟩ = some (.int .i64 c2) := (World.cell?_of_block hblk).trans (hcell 2 _ rfl)
          have HR8 := hide hgo.1
          have HB8 := hide ((HBj.out.trans (hbl1.mono HBj.out.size)).trans (hgo.below hgr (Nat.le_trans HBj.out.size hbl1.size)))
          obtain ⟨want, hw⟩ : ∃ x, x = wantOf (c0, c1, c2) := ⟨_, rfl⟩
          rw [← hw] at HWN ⊢
          clear hgo hblk hcell hbl1 hW1 hw
          unfold tup2
          by_cases h1 : c0 = 1
          · have hwn := HWN.out
            rw [if_pos h1] at hwn
            have hun := HUN.out h1
            have ew : IntKind.u64.wrap c2 = (want : Int) := by rw [IntKind.wrap_u64]; omega
            subst h1
            clear hwn hun
            go_wp2
            go_roundw
            case rel => exact ⟨j + 1, by go_num, by omega, HR8, HB8⟩
            case measure => simp [intOf]; omega
          · have hwn := HWN.out
            rw [if_neg h1] at hwn
            subst hwn
            have t1 : (c0 == 1) = false := by rw [beq_eq_false_iff_ne]; exact h1
            clear h1
            go_wp2
            go_roundw
            case rel => exact ⟨j + 1, by go_num, by omega, HR8, HB8⟩
            case measure => simp [intOf]; omega
        · obtain rfl : j = nd := by omega
          have hall : ds.take j = ds := List.take_of_length_le (by rw [← HND.out]; exact Nat.le_refl _)
          rw [hall, ← HN.out] at HR
          have HBI := hide (show bitsM (outB ds) n 1 = (0, n, 10) by unfold bitsM; rw [if_neg (by omega), if_pos (by rw [← HN.out, Nat.sub_self]; decide)])
          clear hall hlt hj
          generalize wr = wB at *
          go_wp2_with fail
          refine (rbits_any w6.heap.size gr (outB ds) n 1 wB HR.out).mono ?_
          rintro e w8 ⟨rfl, hst⟩
          rw [HBI.out] at hst ⊢
          have HR8 := hide hst.1
          have HB8 := hide (HBj.out.trans (hst.below hgr))
          clear hst
          unfold tup2
          go_wp2_with fail
          refine (rpos_any w6.heap.size gr (outB ds) n w8 HR8.out).mono ?_
          rintro e w' ⟨rfl, rfl⟩
          go_wp2_with fail
          refine (wlen_any w.heap.size w.heap.size r (outB ds) w8 (HS6.out.below HB8.out) (by rw [← HN.out]; omega)).mono ?_
          rintro e w' ⟨rfl, rfl⟩
          rw [← HN.out]
          go_wp2_with fail
          refine (awake_any w8).mono ?_
          rintro e w9 ⟨rfl, hb9⟩
          go_wp2
          go_ret
          exact ⟨rfl, HB6.out.trans ((bl_trans HB8.out hb9).mono HB6.out.size)⟩
end bitioRoundTrips
end Go.Proofs.Ytimcbgcjnfdcaaa
