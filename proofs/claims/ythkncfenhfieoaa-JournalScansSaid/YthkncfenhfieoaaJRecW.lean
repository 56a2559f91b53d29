/- The walk of the journal laws' records. -/
import Derived.Test.YthkncfenhfieoaaJTapeW
namespace Go.Proofs.Ythkncfenhfieoaa
open Go.RowKit
set_option linter.unusedVariables false
set_option linter.unusedSimpArgs false
theorem info_rec2 : (Try.prog.info? 37).map (fun i => (i.zero, i.size, i.bytes)) = some (some (.agg #[.int .i64 0, .string ⟨#[]⟩]), 2, 24) := by kernel_rfl
def tbl6 : Array Value := #[.int .i64 0, .int .i64 1, .int .i64 97, .int .i64 98, .int .i64 255, .int .i64 128]
/-- What a record that is made is. -/
def small (r : Rec) : Prop := (r.1 = 1 ∨ r.1 = 2) ∧ r.2.length ≤ 7
def EG (g : Nat) : Nat → World → World → Prop := fun _ w w' => w.grownBy w' (some g)
def GG (W : World) (g : Nat) : (Nat → Bool) → World → Prop := fun _ w => W.grownBy w (some g) ∧ IsTape w g
theorem GG.of {W : World} {g : Nat} {L L' : Nat → Bool} {w w' : World} (h : GG W g L w) (hg : w.grownBy w' (some g)) (ht : IsTape w' g) : GG W g L' w' := ⟨h.1.trans hg, ht⟩
theorem gb_refl (w : World) (r : Option Nat) : w.grownBy w r := World.grownBy.refl w r
theorem gb_alloc (w : World) (o : Obj) (r : Option Nat) : w.grownBy (w.alloc o) r := World.grownBy_alloc w o r
theorem stab_grow {g base : Nat} (hg : g < base) (i : Nat) (R : Value → (Nat → Prop) → Prop) : True := trivial
/-- A block beyond: kept by what turns g alone. -/
theorem blk_kept {g gb : Nat} {o : Obj} {w w' : World} (h : w.heap[gb]? = some o) (hg : w.grownBy w' (some g)) (hne : gb ≠ g) : w'.heap[gb]? = some o :=
  (hg.block gb (Array.getElem?_eq_some_iff.1 h).1 (fun e => hne (by injection e))).trans h
def P29 (base : Nat) : Value → World → Prop := fun v w => ∃ gb, v = .slice (some ⟨gb, 0, none⟩) 6 6 ∧ base ≤ gb ∧ w.heap[gb]? = some (.cells tbl6 3 (0, 0))
def P31 : Value → World → Prop := fun v _ => ∃ r : Nat, v = .int .i64 (r : Int) ∧ r < 6
def P32 (base : Nat) : Value → World → Prop := fun v w => ∃ gb r, v = .pointer (some ⟨gb, r, none⟩) ∧ r < 6 ∧ base ≤ gb ∧ w.heap[gb]? = some (.cells tbl6 3 (0, 0))
def P33 : Value → World → Prop := fun v _ => ∃ c : UInt8, v = .int .i64 (c.toNat : Int)
def P34 : Value → World → Prop := fun v _ => ∃ c : UInt8, v = .int .u8 (c.toNat : Int)
def P35 (base : Nat) : Value → World → Prop := fun v w => ∃ gb, ∃ c : UInt8, v = .slice (some ⟨gb, 0, none⟩) 1 1 ∧ base ≤ gb ∧ w.heap[gb]? = some (.cells #[.int .u8 (c.toNat : Int)] 5 (0, 0))
def P36 : Value → World → Prop := fun v _ => ∃ c : UInt8, v = .string (bstr [c])
def P37 (p : List UInt8) : Value → World → Prop := fun v _ => ∃ c : UInt8, v = .string (bstr (p ++ [c]))
theorem stab29 {g base : Nat} (hg : g < base) (i : Nat) : StabE (EG g) i (.p (P29 base)) := fun _ _ u w w' hE ⟨gb, h1, h2, h3⟩ => ⟨gb, h1, h2, blk_kept h3 hE (by omega)⟩
theorem stab32 {g base : Nat} (hg : g < base) (i : Nat) : StabE (EG g) i (.p (P32 base)) := fun _ _ u w w' hE ⟨gb, r, h1, h0, h2, h3⟩ => ⟨gb, r, h1, h0, h2, blk_kept h3 hE (by omega)⟩
theorem stab35 {g base : Nat} (hg : g < base) (i : Nat) : StabE (EG g) i (.p (P35 base)) := fun _ _ u w w' hE ⟨gb, c, h1, h2, h3⟩ => ⟨gb, c, h1, h2, blk_kept h3 hE (by omega)⟩
theorem tbl_at {w : World} {gb r : Nat} (h : w.heap[gb]? = some (.cells tbl6 3 (0, 0))) (hr : r < 6) : ∃ c : UInt8, w.cell? ⟨gb, r, none⟩ = some (.int .i64 (c.toNat : Int)) := by
  rw [cell_of_row w gb r _ _ _ h]
  match r, hr with
  | 0, _ => exact ⟨0, rfl⟩
  | 1, _ => exact ⟨1, rfl⟩
  | 2, _ => exact ⟨97, rfl⟩
  | 3, _ => exact ⟨98, rfl⟩
  | 4, _ => exact ⟨255, rfl⟩
  | 5, _ => exact ⟨128, rfl⟩
theorem one_rd {w : World} {gb : Nat} {c : UInt8} (h : w.heap[gb]? = some (.cells #[.int .u8 (c.toNat : Int)] 5 (0, 0))) : BRd w (some ⟨gb, 0, none⟩) [c] := by
  refine .inr ⟨gb, 0, rfl, (Array.getElem?_eq_some_iff.1 h).1, fun k v hv => ?_⟩
  rw [Nat.zero_add, cell_of_row w gb k _ _ _ h]
  simpa [u8v] using hv
theorem row_kept {w w' : World} {base g size n : Nat} {e : TypeId} {v : Value} {xs : List Value} (h : w.ownsRow base e size v n xs) (hg : w.grownBy w' (some g)) (hb : g < base) : w'.ownsRow base e size v n xs := by
  refine h.kept hg ?_
  cases hv : v.ownBlock with
  | none => exact .inl rfl
  | some j => exact .inr (fun e => by injection e with e; have := (h.lt j hv).1; omega)
theorem gb_own {a b c : World} {g : Nat} {r : Option Nat} (h : a.grownBy b (some g)) (k : b.grownBy c r) (hr : ∀ j, r = some j → a.heap.size ≤ j) : a.grownBy c (some g) :=
  ⟨k.os.trans h.os, k.tape.trans h.tape, k.output.trans h.output, Nat.le_trans h.size k.size, fun i hi hne => (k.block i (Nat.lt_of_lt_of_le hi h.size) (fun e => by have := hr i e.symm; omega)).trans (h.block i hi hne)⟩
set_option maxHeartbeats 2000000 in
set_option maxRecDepth 100000 in
theorem lrec_any (g : Nat) (most : Int) (mm : Nat) (w : World) (hmm : most = mm) (hm : mm ≤ 1000) (ht : IsTape w g) :
    Calls Try.prog 12 #[.pointer (some ⟨g, 0, none⟩), .int .i64 most] w fun e w' => ∃ (v : Value) (l : List Rec), e = .returned v ∧ w'.ownsRow w.heap.size 37 2 v l.length (l.flatMap recC) ∧ (∀ r ∈ l, small r) ∧ l.length ≤ mm ∧ w.grownBy w' (some g) := by
  subst hmm
  obtain ⟨i0, hi0, hz0, hz1, hz2⟩ := info_parts info_rec2
  have hgl := ht.lt
  have HT := hide ht
  clear ht
  have hm1 : (1 : Int) ≤ (mm : Int) + 1 := by omega
  go_enter Try.func12, Try.ntmps12
  go_wp2_with fail
  refine (deal_any g _ w HT.out hm1 (by omega)).mono ?_
  rintro e w1 ⟨n, rfl, hn0, hn1, ht1, hg1⟩
  obtain ⟨n, rfl⟩ := Int.eq_ofNat_of_zero_le hn0
  have hnm : n ≤ mm := by omega
  clear hn1 hn0 hm1
  go_wp2_with fail
  go_loopw [5, 6] (fun s i wr => ∃ (k : Nat) (l : List Rec), i = .int .i64 (k : Int) ∧ k + l.length ≤ mm ∧ Hid (∀ r ∈ l, small r) ∧ Hid (wr.ownsRow w.heap.size 37 2 s l.length (l.flatMap recC)) ∧ Hid (IsTape wr g) ∧ Hid (w.grownBy wr (some g))) (fun _ i _ => (intOf i).toNat)
  case atStart => exact ⟨n, [], rfl, by simpa using hnm, hide (fun r h => by simp at h), hide (World.ownsRow_nil _ _ _ _), hide ht1, hide hg1⟩
  case round =>
    obtain ⟨k, l, rfl, hkl, HSM, HO, HTP, HG⟩ := hrel
    rcases k with _ | k
    · go_wp2
      go_ret
      exact ⟨u5, l, rfl, HO.out, HSM.out, by omega, HG.out⟩
    · have hk0 : (0 : Int) < ((k + 1 : Nat) : Int) := by omega
      have hks : ((k + 1 : Nat) : Int) - 1 = (k : Int) := by omega
      go_wp2_with fail
      refine (deal_any g 2 wr HTP.out (by decide) (by decide)).mono ?_
      rintro e w2 ⟨kd, rfl, hk1, hk2, ht2, hg2⟩
      obtain ⟨kz, hkz⟩ : ∃ kz : Int, kz = 1 + kd := ⟨_, rfl⟩
      have hkz' : 1 + kd = kz := hkz.symm
      have hkd : kz = 1 ∨ kz = 2 := by omega
      have hs2 : w.heap.size ≤ w2.heap.size := Nat.le_trans HG.out.size hg2.size
      have hg2' := hg2
      have HT2 := hide ht2
      have HG2 := hide hg2
      clear ht2 hg2 hkz hk1 hk2
      go_wp2_with fail
      obtain ⟨w3, hw3⟩ : ∃ w3, w3 = w2.alloc (.cells #[.int .i64 kz, .string ⟨#[]⟩] 37) := ⟨_, rfl⟩
      have hg3 : w2.grownBy w3 (some g) := by rw [hw3]; exact gb_alloc _ _ _
      have ht3 : IsTape w3 g := by rw [hw3]; exact HT2.out.below (bl_alloc (bl_refl w2) _)
      have hb3 : w3.heap[w2.heap.size]? = some (.cells #[.int .i64 kz, .string ⟨#[]⟩] 37 (0, 0)) := by rw [hw3]; exact heap_alloc_new w2 _
      rw [← hw3]
      have HG3 := hide (hg2'.trans hg3)
      have HT3 := hide ht3
      have HB3 := hide hb3
      clear hg3 ht3 hb3 hw3
      refine (deal_any g 8 w3 HT3.out (by decide) (by decide)).mono ?_
      rintro e w4 ⟨n8, rfl, hn8, hn9, ht4, hg4⟩
      obtain ⟨n8, rfl⟩ := Int.eq_ofNat_of_zero_le hn8
      have hgB : ¬ w2.heap.size = g := by omega
      have hb4 := blk_kept HB3.out hg4 hgB
      have HT4 := hide ht4
      have HG4 := hide (HG3.out.trans hg4)
      have HB4 := hide hb4
      have hn7 : n8 ≤ 7 := by omega
      have hsr : wr.heap.size ≤ w2.heap.size := HG2.out.size
      clear ht4 hg4 hb4 hn8 hn9
      go_wp2_with fail
      obtain ⟨wo, hwo⟩ : ∃ wo, wo = wr := ⟨_, rfl⟩
      subst hwo
      go_loopw [8] (fun i wx => ∃ (j : Nat) (p : List UInt8), i = .int .i64 (j : Int) ∧ j + p.length ≤ 7 ∧ Hid (wx.heap[w2.heap.size]? = some (.cells #[.int .i64 kz, .string (bstr p)] 37 (0, 0))) ∧ Hid (IsTape wx g) ∧ Hid (wo.grownBy wx (some g))) (fun i _ => (intOf i).toNat)
      case atStart => exact ⟨n8, [], rfl, by simpa using hn7, HB4, HT4, HG4⟩
      case round =>
        obtain ⟨j, p, rfl, hjp, HBX, HTX, HGX⟩ := hrel
        rcases j with _ | j
        · obtain ⟨SP, hSP⟩ : ∃ SP, SP = bstr p := ⟨_, rfl⟩
          have hbx := HBX.out
          rw [← hSP] at hbx
          have c0 : wr.cell? ⟨w2.heap.size, 0, none⟩ = some (.int .i64 kz) := cell_of_row wr _ 0 _ _ _ hbx
          have c1 : wr.cell? ⟨w2.heap.size, 1, none⟩ = some (.string SP) := cell_of_row wr _ 1 _ _ _ hbx
          have hll : l.length ≤ 1000 := by omega
          have HSP := hide hSP
          have hrow := row_kept HO.out HGX.out hgl
          have HROW := hide hrow
          have hsw : w.heap.size ≤ wr.heap.size := Nat.le_trans hs2 (Nat.le_of_lt (Array.getElem?_eq_some_iff.1 hbx).1)
          clear hbx hSP hrow
          go_wp2_with (at_builtin; go_loud (refine wpList_append_rd _ rfl (.tmp 39) (.tmp 41) 26 rfl w.heap.size 37 i0 _ 2 24 Try.underlying26 hi0 hz0 hz1 hz2 rfl (by omega) u5 l.length (l.flatMap recC) rfl (HROW.out.kept (gb_alloc _ _ none) (by cases u5.ownBlock <;> simp)) _ 1 1 [.int .i64 kz, .string SP] rfl rfl (rd_lit _ _ _ _) (by intro u hu; simp at hu; rcases hu with rfl | rfl <;> rfl) (by simp only [maxLen]; omega) (by omega) (by simp; omega) ?_); intro v2 w5 hown2 hg5 hat5)
          go_roundw
          case rel =>
            refine ⟨k, l ++ [(kz, p)], rfl, by simp; omega, hide ?_, hide ?_, hide ?_, hide ?_⟩
            · intro r hr
              rcases List.mem_append.1 hr with hr | hr
              · exact HSM.out r hr
              · simp at hr; subst hr
                exact ⟨hkd, by show p.length ≤ 7; omega⟩
            · rw [List.length_append, List.flatMap_append]
              have e : [(kz, p)].flatMap recC = [.int .i64 kz, .string SP] := by rw [HSP.out]; rfl
              rw [e]; exact hown2
            · refine (HTX.out.below (bl_alloc (bl_refl wr) _)).grown hg5 (fun j hj => ?_)
              have := (HROW.out.lt j hj).1; omega
            · exact gb_own (HG.out.trans (HGX.out.trans (gb_alloc _ _ _))) hg5 (fun j hj => (HROW.out.lt j hj).1)
          case measure => simp [intOf]
        · have hj0 : (0 : Int) < ((j + 1 : Nat) : Int) := by omega
          have hjs : ((j + 1 : Nat) : Int) - 1 = (j : Int) := by omega
          obtain ⟨SP, hSP⟩ : ∃ SP, SP = bstr p := ⟨_, rfl⟩
          have HSP := hide hSP
          have hbx := HBX.out
          rw [← hSP] at hbx
          have HBS := hide hbx
          have hpl : p.length ≤ 7 := by omega
          have hgr : g < wr.heap.size := HTX.out.lt
          have hltB : w2.heap.size < wr.heap.size := (Array.getElem?_eq_some_iff.1 hbx).1
          clear hSP hbx
          go_wp2_with fail
          have hstart : GG wr g (fun _ => false) wr.drew := ⟨(gb_refl wr _).trans ⟨rfl, rfl, rfl, Nat.le_refl _, fun _ _ _ => rfl⟩, HTX.out⟩
          refine wp_region_E 12 (GG wr g) (EG g) (by kernel_rfl) (by kernel_rfl) hstart (fun Q HQ => ?_)
          simp only [List.take_succ_cons, List.take_zero, List.map_cons, List.map_nil]
          apply wpE_c rfl
          focus
            intro L ev wx hG hL hM hx
            (try simp [Op.operands, Call.operands, opndS, Slot.holds] at hx)
            go_simp
            exact ⟨hG.of (gb_refl _ _) hG.2, gb_refl _ _, rfl⟩
          dsimp only [setS, List.set]
          apply wpE_c (v := .string SP) rfl
          focus
            intro L ev wx hG hL hM hx
            (try simp [Op.operands, Call.operands, opndS, Slot.holds] at hx)
            have hbx := blk_kept HBS.out hG.1 hgB
            have c1 : wx.cell? ⟨w2.heap.size, 1, none⟩ = some (.string SP) := cell_of_row wx _ 1 _ _ _ hbx
            go_simp
            exact ⟨hG.of (gb_refl _ _) hG.2, gb_refl _ _, rfl⟩
          dsimp only [setS, List.set]
          refine wpE_p (R := P29 wr.heap.size) rfl (stab29 hgr _) ?_ ?_
          focus
            intro L ev wx hG hL hM hx
            (try simp [Op.operands, Call.operands, opndS, Slot.holds] at hx)
            go_simp
            exact ⟨hG.of (gb_alloc _ _ _) (hG.2.below (bl_alloc (bl_refl wx) _)), gb_alloc _ _ _, wx.heap.size, rfl, hG.1.size, heap_alloc_new wx _⟩
          dsimp only [setS, List.set]
          apply wpE_c rfl
          focus
            intro L ev wx hG hL hM hx
            (try simp [Op.operands, Call.operands, opndS, Slot.holds] at hx)
            go_simp
            exact ⟨hG.of (gb_refl _ _) hG.2, gb_refl _ _, rfl⟩
          dsimp only [setS, List.set]
          refine wpE_p (R := P31) rfl (fun _ _ _ _ _ _ h => h) ?_ ?_
          focus
            intro L ev wx hG hL hM hx
            (try simp [Op.operands, Call.operands, opndS, Slot.holds] at hx)
            go_simp
            refine (deal_any g 6 wx hG.2 (by decide) (by decide)).mono ?_
            rintro e w' ⟨r, rfl, hr0, hr1, ht, hg⟩
            obtain ⟨r, rfl⟩ := Int.eq_ofNat_of_zero_le hr0
            exact ⟨_, rfl, hG.of hg ht, hg, r, rfl, by omega⟩
          dsimp only [setS, List.set]
          refine wpE_p (R := P32 wr.heap.size) rfl (stab32 hgr _) ?_ ?_
          focus
            intro L ev wx hG hL hM hx
            (try simp [Op.operands, Call.operands, opndS, Slot.holds] at hx)
            obtain ⟨⟨gb, hv29, hgb, hcb⟩, ⟨r, hv31, hr6⟩⟩ := hx
            have hr6' : (r : Int) < 6 := by omega
            go_simp
            exact ⟨hG.of (gb_refl _ _) hG.2, gb_refl _ _, gb, r, rfl, hr6, hgb, hcb⟩
          dsimp only [setS, List.set]
          refine wpE_p (R := P33) rfl (fun _ _ _ _ _ _ h => h) ?_ ?_
          focus
            intro L ev wx hG hL hM hx
            (try simp [Op.operands, Call.operands, opndS, Slot.holds] at hx)
            obtain ⟨gb, r, hv32, hr6, hgb, hcb⟩ := hx
            obtain ⟨c, hc⟩ := tbl_at hcb hr6
            go_simp
            exact ⟨hG.of (gb_refl _ _) hG.2, gb_refl _ _, c, rfl⟩
          dsimp only [setS, List.set]
          refine wpE_p (R := P34) rfl (fun _ _ _ _ _ _ h => h) ?_ ?_
          focus
            intro L ev wx hG hL hM hx
            (try simp [Op.operands, Call.operands, opndS, Slot.holds] at hx)
            obtain ⟨c, hv33⟩ := hx
            have hc8 := c.toNat_lt
            have ew : IntKind.u8.wrap (c.toNat : Int) = (c.toNat : Int) := by rw [IntKind.wrap_u8]; omega
            go_simp
            exact ⟨hG.of (gb_refl _ _) hG.2, gb_refl _ _, c, rfl⟩
          dsimp only [setS, List.set]
          refine wpE_p (R := P35 wr.heap.size) rfl (stab35 hgr _) ?_ ?_
          focus
            intro L ev wx hG hL hM hx
            (try simp [Op.operands, Call.operands, opndS, Slot.holds] at hx)
            obtain ⟨c, hv34⟩ := hx
            go_simp
            exact ⟨hG.of (gb_alloc _ _ _) (hG.2.below (bl_alloc (bl_refl wx) _)), gb_alloc _ _ _, wx.heap.size, c, rfl, hG.1.size, heap_alloc_new wx _⟩
          dsimp only [setS, List.set]
          refine wpE_p (R := P36) rfl (fun _ _ _ _ _ _ h => h) ?_ ?_
          focus
            intro L ev wx hG hL hM hx
            (try simp [Op.operands, Call.operands, opndS, Slot.holds] at hx)
            obtain ⟨gb, c, hv35, hgb, hcb⟩ := hx
            have k1 := run_bytes_str (P := Try.prog) wx 39 9 5 (some ⟨gb, 0, none⟩) 1 1 [c] Try.underlying39 Try.underlying5 Try.underlying9 rfl (one_rd hcb)
            go_simp
            exact ⟨hG.of (gb_refl _ _) hG.2, gb_refl _ _, c, rfl⟩
          dsimp only [setS, List.set]
          refine wpE_p (R := P37 p) rfl (fun _ _ _ _ _ _ h => h) ?_ ?_
          focus
            intro L ev wx hG hL hM hx
            (try simp [Op.operands, Call.operands, opndS, Slot.holds] at hx)
            obtain ⟨hv28, c, hv36⟩ := hx
            have add1 := add_str (P := Try.prog) HSP.out (rfl : bstr [c] = bstr [c]) (by simp; omega) wx
            go_simp
            exact ⟨hG.of (gb_refl _ _) hG.2, gb_refl _ _, c, rfl⟩
          dsimp only [setS, List.set]
          apply wpE_c rfl
          focus
            intro L ev wx hG hL hM hx
            (try simp [Op.operands, Call.operands, opndS, Slot.holds] at hx)
            go_simp
            exact ⟨hG.of (gb_refl _ _) hG.2, gb_refl _ _, rfl⟩
          dsimp only [setS, List.set]
          refine wpE_nil (HQ _ fun w5 hG5 => ?_)
          simp only [closeS, List.drop_succ_cons, List.drop_zero, List.drop_nil]
          clear HQ hstart
          rintro v29 - v31 - v32 - v33 - v34 - v35 - v36 - v37 ⟨c, rfl⟩
          have hb5 := blk_kept HBS.out hG5.1 hgB
          have fz5 : ∀ j, w5.frozen? ⟨w2.heap.size, j, none⟩ = false := fun j => by simp [World.frozen?, hb5]
          have c5 : w5.cell? ⟨w2.heap.size, 1, none⟩ = some (.string SP) := cell_of_row w5 _ 1 _ _ _ hb5
          have HB5 := hide hb5
          have HG5 := hide hG5
          clear hb5 hG5
          go_wp2
          go_roundw
          case rel =>
            refine ⟨j, p ++ [c], rfl, by simp; omega, hide ?_, hide ?_, hide ?_⟩
            · simp [World.setCell, Array.getElem?_modify, HB5.out]
            · exact HG5.out.2.grown (grownBy_setCell_at w5 ⟨w2.heap.size, 1, none⟩ _) (fun k hk => by cases hk; show g < w2.heap.size; omega)
            · exact gb_own (HGX.out.trans HG5.out.1) (grownBy_setCell_at w5 ⟨w2.heap.size, 1, none⟩ _) (fun k hk => by cases hk; show wo.heap.size ≤ w2.heap.size; omega)
          case measure => simp [intOf]
end Go.Proofs.Ythkncfenhfieoaa
