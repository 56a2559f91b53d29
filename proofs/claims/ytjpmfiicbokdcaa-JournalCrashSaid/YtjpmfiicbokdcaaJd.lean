/- The walk of the journal laws' records. The chapter's example; equality of lists of records. The walks of the laws JournalAny, JournalBack and JournalJoins. Equality of lists of records; the walks of the laws JournalBack, JournalJoins and JournalEncodes. The plain law of torn and of damaged journals: lists of bytes alone. -/
import Derived.Test.YtjpmfiicbokdcaaJTapeW
import Derived.Test.YtjpmfiicbokdcaaJc
import Derived.Test.YtjpmfiicbokdcaaJa
namespace Go.Proofs.Ytjpmfiicbokdcaa
open Go.RowKit
set_option linter.unusedVariables false
set_option linter.unusedSimpArgs false
theorem info_rec2 : (Try.prog.info? 90).map (fun i => (i.zero, i.size, i.bytes)) = some (some (.agg #[.int .i64 0, .string ⟨#[]⟩]), 2, 24) := by kernel_rfl
def tbl6 : Array Value := #[.int .i64 0, .int .i64 1, .int .i64 97, .int .i64 98, .int .i64 255, .int .i64 128]
/-- What a record that is made is. -/
def small (r : Rec) : Prop := (r.1 = 1 ∨ r.1 = 2) ∧ r.2.length ≤ 7
def EG (g : Nat) : Nat → World → World → Prop := fun _ w w' => w.grownBy w' (some g)
def GG (W : World) (g : Nat) : (Nat → Bool) → World → Prop := fun _ w => W.grownBy w (some g) ∧ IsTape w g
theorem GG.of {W : World} {g : Nat} {L L' : Nat → Bool} {w w' : World} (h : GG W g L w) (hg : w.grownBy w' (some g)) (ht : IsTape w' g) : GG W g L' w' := ⟨h.1.trans hg, ht⟩
theorem gb_refl (w : World) (r : Option Nat) : w.grownBy w r := World.grownBy.refl w r
theorem gb_alloc (w : World) (o : Obj) (r : Option Nat) : w.grownBy (w.alloc o) r := World.grownBy_alloc w o r
theorem stab_grow {g base : Nat} (hg : g < base) (i : Nat) (R : Value → (Nat → Prop) → Prop) : True := trivial
/-- A block beyond: kept by what turns g alone. -/
theorem blk_kept {g gb : Nat} {o : Obj} {w w' : World} (h : w.heap[gb]? = some o) (hg : w.grownBy w' (some g)) (hne : gb ≠ g) : w'.heap[gb]? = some o :=
  (hg.block gb (Array.getElem?_eq_some_iff.1 h).1 (fun e => hne (by injection e))).trans h
def P29 (base : Nat) : Value → World → Prop := fun v w => ∃ gb, v = .slice (some ⟨gb, 0, none⟩) 6 6 ∧ base ≤ gb ∧ w.heap[gb]? = some (.cells tbl6 3 (0, 0))
def P31 : Value → World → Prop := fun v _ => ∃ r : Nat, v = .int .i64 (r : Int) ∧ r < 6
def P32 (base : Nat) : Value → World → Prop := fun v w => ∃ gb r, v = .pointer (some ⟨gb, r, none⟩) ∧ r < 6 ∧ base ≤ gb ∧ w.heap[gb]? = some (.cells tbl6 3 (0, 0))
def P33 : Value → World → Prop := fun v _ => ∃ c : UInt8, v = .int .i64 (c.toNat : Int)
def P34 : Value → World → Prop := fun v _ => ∃ c : UInt8, v = .int .u8 (c.toNat : Int)
def P35 (base : Nat) : Value → World → Prop := fun v w => ∃ gb, ∃ c : UInt8, v = .slice (some ⟨gb, 0, none⟩) 1 1 ∧ base ≤ gb ∧ w.heap[gb]? = some (.cells #[.int .u8 (c.toNat : Int)] 5 (0, 0))
def P36 : Value → World → Prop := fun v _ => ∃ c : UInt8, v = .string (bstr [c])
def P37 (p : List UInt8) : Value → World → Prop := fun v _ => ∃ c : UInt8, v = .string (bstr (p ++ [c]))
theorem stab29 {g base : Nat} (hg : g < base) (i : Nat) : StabE (EG g) i (.p (P29 base)) := fun _ _ u w w' hE ⟨gb, h1, h2, h3⟩ => ⟨gb, h1, h2, blk_kept h3 hE (by omega)⟩
theorem stab32 {g base : Nat} (hg : g < base) (i : Nat) : StabE (EG g) i (.p (P32 base)) := fun _ _ u w w' hE ⟨gb, r, h1, h0, h2, h3⟩ => ⟨gb, r, h1, h0, h2, blk_kept h3 hE (by omega)⟩
theorem stab35 {g base : Nat} (hg : g < base) (i : Nat) : StabE (EG g) i (.p (P35 base)) := fun _ _ u w w' hE ⟨gb, c, h1, h2, h3⟩ => ⟨gb, c, h1, h2, blk_kept h3 hE (by omega)⟩
theorem tbl_at {w : World} {gb r : Nat} (h : w.heap[gb]? = some (.cells tbl6 3 (0, 0))) (hr : r < 6) : ∃ c : UInt8, w.cell? ⟨gb, r, none⟩ = some (.int .i64 (c.toNat : Int)) := by
  rw [cell_of_row w gb r _ _ _ h]
  match r, hr with
  | 0, _ => exact ⟨0, rfl⟩
  | 1, _ => exact ⟨1, rfl⟩
  | 2, _ => exact ⟨97, rfl⟩
  | 3, _ => exact ⟨98, rfl⟩
  | 4, _ => exact ⟨255, rfl⟩
  | 5, _ => exact ⟨128, rfl⟩
theorem one_rd {w : World} {gb : Nat} {c : UInt8} (h : w.heap[gb]? = some (.cells #[.int .u8 (c.toNat : Int)] 5 (0, 0))) : BRd w (some ⟨gb, 0, none⟩) [c] := by
  refine .inr ⟨gb, 0, rfl, (Array.getElem?_eq_some_iff.1 h).1, fun k v hv => ?_⟩
  rw [Nat.zero_add, cell_of_row w gb k _ _ _ h]
  simpa [u8v] using hv
theorem row_kept {w w' : World} {base g size n : Nat} {e : TypeId} {v : Value} {xs : List Value} (h : w.ownsRow base e size v n xs) (hg : w.grownBy w' (some g)) (hb : g < base) : w'.ownsRow base e size v n xs := by
  refine h.kept hg ?_
  cases hv : v.ownBlock with
  | none => exact .inl rfl
  | some j => exact .inr (fun e => by injection e with e; have := (h.lt j hv).1; omega)
theorem gb_own {a b c : World} {g : Nat} {r : Option Nat} (h : a.grownBy b (some g)) (k : b.grownBy c r) (hr : ∀ j, r = some j → a.heap.size ≤ j) : a.grownBy c (some g) :=
  ⟨k.os.trans h.os, k.tape.trans h.tape, k.output.trans h.output, Nat.le_trans h.size k.size, fun i hi hne => (k.block i (Nat.lt_of_lt_of_le hi h.size) (fun e => by have := hr i e.symm; omega)).trans (h.block i hi hne)⟩
set_option maxHeartbeats 2000000 in
set_option maxRecDepth 100000 in
theorem lrec_any (g : Nat) (most : Int) (mm : Nat) (w : World) (hmm : most = mm) (hm : mm ≤ 1000) (ht : IsTape w g) :
    Calls Try.prog 33 #[.pointer (some ⟨g, 0, none⟩), .int .i64 most] w fun e w' => ∃ (v : Value) (l : List Rec), e = .returned v ∧ w'.ownsRow w.heap.size 90 2 v l.length (l.flatMap recC) ∧ (∀ r ∈ l, small r) ∧ l.length ≤ mm ∧ w.grownBy w' (some g) := by
  subst hmm
  obtain ⟨i0, hi0, hz0, hz1, hz2⟩ := info_parts info_rec2
  have hgl := ht.lt
  have HT := hide ht
  clear ht
  have hm1 : (1 : Int) ≤ (mm : Int) + 1 := by omega
  go_enter Try.func33, Try.ntmps33
  go_wp2_with fail
  refine (deal_any g _ w HT.out hm1 (by omega)).mono ?_
  rintro e w1 ⟨n, rfl, hn0, hn1, ht1, hg1⟩
  obtain ⟨n, rfl⟩ := Int.eq_ofNat_of_zero_le hn0
  have hnm : n ≤ mm := by omega
  clear hn1 hn0 hm1
  go_wp2_with fail
  go_loopw [5, 6] (fun s i wr => ∃ (k : Nat) (l : List Rec), i = .int .i64 (k : Int) ∧ k + l.length ≤ mm ∧ Hid (∀ r ∈ l, small r) ∧ Hid (wr.ownsRow w.heap.size 90 2 s l.length (l.flatMap recC)) ∧ Hid (IsTape wr g) ∧ Hid (w.grownBy wr (some g))) (fun _ i _ => (intOf i).toNat)
  case atStart => exact ⟨n, [], rfl, by simpa using hnm, hide (fun r h => by simp at h), hide (World.ownsRow_nil _ _ _ _), hide ht1, hide hg1⟩
  case round =>
    obtain ⟨k, l, rfl, hkl, HSM, HO, HTP, HG⟩ := hrel
    rcases k with _ | k
    · go_wp2
      go_ret
      exact ⟨u5, l, rfl, HO.out, HSM.out, by omega, HG.out⟩
    · have hk0 : (0 : Int) < ((k + 1 : Nat) : Int) := by omega
      have hks : ((k + 1 : Nat) : Int) - 1 = (k : Int) := by omega
      go_wp2_with fail
      refine (deal_any g 2 wr HTP.out (by decide) (by decide)).mono ?_
      rintro e w2 ⟨kd, rfl, hk1, hk2, ht2, hg2⟩
      obtain ⟨kz, hkz⟩ : ∃ kz : Int, kz = 1 + kd := ⟨_, rfl⟩
      have hkz' : 1 + kd = kz := hkz.symm
      have hkd : kz = 1 ∨ kz = 2 := by omega
      have hs2 : w.heap.size ≤ w2.heap.size := Nat.le_trans HG.out.size hg2.size
      have hg2' := hg2
      have HT2 := hide ht2
      have HG2 := hide hg2
      clear ht2 hg2 hkz hk1 hk2
      go_wp2_with fail
      obtain ⟨w3, hw3⟩ : ∃ w3, w3 = w2.alloc (.cells #[.int .i64 kz, .string ⟨#[]⟩] 90) := ⟨_, rfl⟩
      have hg3 : w2.grownBy w3 (some g) := by rw [hw3]; exact gb_alloc _ _ _
      have ht3 : IsTape w3 g := by rw [hw3]; exact HT2.out.below (bl_alloc (bl_refl w2) _)
      have hb3 : w3.heap[w2.heap.size]? = some (.cells #[.int .i64 kz, .string ⟨#[]⟩] 90 (0, 0)) := by rw [hw3]; exact heap_alloc_new w2 _
      rw [← hw3]
      have HG3 := hide (hg2'.trans hg3)
      have HT3 := hide ht3
      have HB3 := hide hb3
      clear hg3 ht3 hb3 hw3
      refine (deal_any g 8 w3 HT3.out (by decide) (by decide)).mono ?_
      rintro e w4 ⟨n8, rfl, hn8, hn9, ht4, hg4⟩
      obtain ⟨n8, rfl⟩ := Int.eq_ofNat_of_zero_le hn8
      have hgB : ¬ w2.heap.size = g := by omega
      have hb4 := blk_kept HB3.out hg4 hgB
      have HT4 := hide ht4
      have HG4 := hide (HG3.out.trans hg4)
      have HB4 := hide hb4
      have hn7 : n8 ≤ 7 := by omega
      have hsr : wr.heap.size ≤ w2.heap.size := HG2.out.size
      clear ht4 hg4 hb4 hn8 hn9
      go_wp2_with fail
      obtain ⟨wo, hwo⟩ : ∃ wo, wo = wr := ⟨_, rfl⟩
      subst hwo
      go_loopw [8] (fun i wx => ∃ (j : Nat) (p : List UInt8), i = .int .i64 (j : Int) ∧ j + p.length ≤ 7 ∧ Hid (wx.heap[w2.heap.size]? = some (.cells #[.int .i64 kz, .string (bstr p)] 90 (0, 0))) ∧ Hid (IsTape wx g) ∧ Hid (wo.grownBy wx (some g))) (fun i _ => (intOf i).toNat)
      case atStart => exact ⟨n8, [], rfl, by simpa using hn7, HB4, HT4, HG4⟩
      case round =>
        obtain ⟨j, p, rfl, hjp, HBX, HTX, HGX⟩ := hrel
        rcases j with _ | j
        · obtain ⟨SP, hSP⟩ : ∃ SP, SP = bstr p := ⟨_, rfl⟩
          have hbx := HBX.out
          rw [← hSP] at hbx
          have c0 : wr.cell? ⟨w2.heap.size, 0, none⟩ = some (.int .i64 kz) := cell_of_row wr _ 0 _ _ _ hbx
          have c1 : wr.cell? ⟨w2.heap.size, 1, none⟩ = some (.string SP) := cell_of_row wr _ 1 _ _ _ hbx
          have hll : l.length ≤ 1000 := by omega
          have HSP := hide hSP
          have hrow := row_kept HO.out HGX.out hgl
          have HROW := hide hrow
          have hsw : w.heap.size ≤ wr.heap.size := Nat.le_trans hs2 (Nat.le_of_lt (Array.getElem?_eq_some_iff.1 hbx).1)
          clear hbx hSP hrow
          go_wp2_with (at_builtin; go_loud (refine wpList_append_rd _ rfl (.tmp 39) (.tmp 41) 60 rfl w.heap.size 90 i0 _ 2 24 Try.underlying60 hi0 hz0 hz1 hz2 rfl (by omega) u5 l.length (l.flatMap recC) rfl (HROW.out.kept (gb_alloc _ _ none) (by cases u5.ownBlock <;> simp)) _ 1 1 [.int .i64 kz, .string SP] rfl rfl (rd_lit _ _ _ _) (by intro u hu; simp at hu; rcases hu with rfl | rfl <;> rfl) (by simp only [maxLen]; omega) (by omega) (by simp; omega) ?_); intro v2 w5 hown2 hg5 hat5)
          go_roundw
          case rel =>
            refine ⟨k, l ++ [(kz, p)], rfl, by simp; omega, hide ?_, hide ?_, hide ?_, hide ?_⟩
            · intro r hr
              rcases List.mem_append.1 hr with hr | hr
              · exact HSM.out r hr
              · simp at hr; subst hr
                exact ⟨hkd, by show p.length ≤ 7; omega⟩
            · rw [List.length_append, List.flatMap_append]
              have e : [(kz, p)].flatMap recC = [.int .i64 kz, .string SP] := by rw [HSP.out]; rfl
              rw [e]; exact hown2
            · refine (HTX.out.below (bl_alloc (bl_refl wr) _)).grown hg5 (fun j hj => ?_)
              have := (HROW.out.lt j hj).1; omega
            · exact gb_own (HG.out.trans (HGX.out.trans (gb_alloc _ _ _))) hg5 (fun j hj => (HROW.out.lt j hj).1)
          case measure => simp [intOf]
        · have hj0 : (0 : Int) < ((j + 1 : Nat) : Int) := by omega
          have hjs : ((j + 1 : Nat) : Int) - 1 = (j : Int) := by omega
          obtain ⟨SP, hSP⟩ : ∃ SP, SP = bstr p := ⟨_, rfl⟩
          have HSP := hide hSP
          have hbx := HBX.out
          rw [← hSP] at hbx
          have HBS := hide hbx
          have hpl : p.length ≤ 7 := by omega
          have hgr : g < wr.heap.size := HTX.out.lt
          have hltB : w2.heap.size < wr.heap.size := (Array.getElem?_eq_some_iff.1 hbx).1
          clear hSP hbx
          go_wp2_with fail
          have hstart : GG wr g (fun _ => false) wr.drew := ⟨(gb_refl wr _).trans ⟨rfl, rfl, rfl, Nat.le_refl _, fun _ _ _ => rfl⟩, HTX.out⟩
          refine wp_region_E 12 (GG wr g) (EG g) (by kernel_rfl) (by kernel_rfl) hstart (fun Q HQ => ?_)
          simp only [List.take_succ_cons, List.take_zero, List.map_cons, List.map_nil]
          apply wpE_c rfl
          focus
            intro L ev wx hG hL hM hx
            (try simp [Op.operands, Call.operands, opndS, Slot.holds] at hx)
            go_simp
            exact ⟨hG.of (gb_refl _ _) hG.2, gb_refl _ _, rfl⟩
          dsimp only [setS, List.set]
          apply wpE_c (v := .string SP) rfl
          focus
            intro L ev wx hG hL hM hx
            (try simp [Op.operands, Call.operands, opndS, Slot.holds] at hx)
            have hbx := blk_kept HBS.out hG.1 hgB
            have c1 : wx.cell? ⟨w2.heap.size, 1, none⟩ = some (.string SP) := cell_of_row wx _ 1 _ _ _ hbx
            go_simp
            exact ⟨hG.of (gb_refl _ _) hG.2, gb_refl _ _, rfl⟩
          dsimp only [setS, List.set]
          refine wpE_p (R := P29 wr.heap.size) rfl (stab29 hgr _) ?_ ?_
          focus
            intro L ev wx hG hL hM hx
            (try simp [Op.operands, Call.operands, opndS, Slot.holds] at hx)
            go_simp
            exact ⟨hG.of (gb_alloc _ _ _) (hG.2.below (bl_alloc (bl_refl wx) _)), gb_alloc _ _ _, wx.heap.size, rfl, hG.1.size, heap_alloc_new wx _⟩
          dsimp only [setS, List.set]
          apply wpE_c rfl
          focus
            intro L ev wx hG hL hM hx
            (try simp [Op.operands, Call.operands, opndS, Slot.holds] at hx)
            go_simp
            exact ⟨hG.of (gb_refl _ _) hG.2, gb_refl _ _, rfl⟩
          dsimp only [setS, List.set]
          refine wpE_p (R := P31) rfl (fun _ _ _ _ _ _ h => h) ?_ ?_
          focus
            intro L ev wx hG hL hM hx
            (try simp [Op.operands, Call.operands, opndS, Slot.holds] at hx)
            go_simp
            refine (deal_any g 6 wx hG.2 (by decide) (by decide)).mono ?_
            rintro e w' ⟨r, rfl, hr0, hr1, ht, hg⟩
            obtain ⟨r, rfl⟩ := Int.eq_ofNat_of_zero_le hr0
            exact ⟨_, rfl, hG.of hg ht, hg, r, rfl, by omega⟩
          dsimp only [setS, List.set]
          refine wpE_p (R := P32 wr.heap.size) rfl (stab32 hgr _) ?_ ?_
          focus
            intro L ev wx hG hL hM hx
            (try simp [Op.operands, Call.operands, opndS, Slot.holds] at hx)
            obtain ⟨⟨gb, hv29, hgb, hcb⟩, ⟨r, hv31, hr6⟩⟩ := hx
            have hr6' : (r : Int) < 6 := by omega
            go_simp
            exact ⟨hG.of (gb_refl _ _) hG.2, gb_refl _ _, gb, r, rfl, hr6, hgb, hcb⟩
          dsimp only [setS, List.set]
          refine wpE_p (R := P33) rfl (fun _ _ _ _ _ _ h => h) ?_ ?_
          focus
            intro L ev wx hG hL hM hx
            (try simp [Op.operands, Call.operands, opndS, Slot.holds] at hx)
            obtain ⟨gb, r, hv32, hr6, hgb, hcb⟩ := hx
            obtain ⟨c, hc⟩ := tbl_at hcb hr6
            go_simp
            exact ⟨hG.of (gb_refl _ _) hG.2, gb_refl _ _, c, rfl⟩
          dsimp only [setS, List.set]
          refine wpE_p (R := P34) rfl (fun _ _ _ _ _ _ h => h) ?_ ?_
          focus
            intro L ev wx hG hL hM hx
            (try simp [Op.operands, Call.operands, opndS, Slot.holds] at hx)
            obtain ⟨c, hv33⟩ := hx
            have hc8 := c.toNat_lt
            have ew : IntKind.u8.wrap (c.toNat : Int) = (c.toNat : Int) := by rw [IntKind.wrap_u8]; omega
            go_simp
            exact ⟨hG.of (gb_refl _ _) hG.2, gb_refl _ _, c, rfl⟩
          dsimp only [setS, List.set]
          refine wpE_p (R := P35 wr.heap.size) rfl (stab35 hgr _) ?_ ?_
          focus
            intro L ev wx hG hL hM hx
            (try simp [Op.operands, Call.operands, opndS, Slot.holds] at hx)
            obtain ⟨c, hv34⟩ := hx
            go_simp
            exact ⟨hG.of (gb_alloc _ _ _) (hG.2.below (bl_alloc (bl_refl wx) _)), gb_alloc _ _ _, wx.heap.size, c, rfl, hG.1.size, heap_alloc_new wx _⟩
          dsimp only [setS, List.set]
          refine wpE_p (R := P36) rfl (fun _ _ _ _ _ _ h => h) ?_ ?_
          focus
            intro L ev wx hG hL hM hx
            (try simp [Op.operands, Call.operands, opndS, Slot.holds] at hx)
            obtain ⟨gb, c, hv35, hgb, hcb⟩ := hx
            have k1 := run_bytes_str (P := Try.prog) wx 91 9 5 (some ⟨gb, 0, none⟩) 1 1 [c] Try.underlying91 Try.underlying5 Try.underlying9 rfl (one_rd hcb)
            go_simp
            exact ⟨hG.of (gb_refl _ _) hG.2, gb_refl _ _, c, rfl⟩
          dsimp only [setS, List.set]
          refine wpE_p (R := P37 p) rfl (fun _ _ _ _ _ _ h => h) ?_ ?_
          focus
            intro L ev wx hG hL hM hx
            (try simp [Op.operands, Call.operands, opndS, Slot.holds] at hx)
            obtain ⟨hv28, c, hv36⟩ := hx
            have add1 := add_str (P := Try.prog) HSP.out (rfl : bstr [c] = bstr [c]) (by simp; omega) wx
            go_simp
            exact ⟨hG.of (gb_refl _ _) hG.2, gb_refl _ _, c, rfl⟩
          dsimp only [setS, List.set]
          apply wpE_c rfl
          focus
            intro L ev wx hG hL hM hx
            (try simp [Op.operands, Call.operands, opndS, Slot.holds] at hx)
            go_simp
            exact ⟨hG.of (gb_refl _ _) hG.2, gb_refl _ _, rfl⟩
          dsimp only [setS, List.set]
          refine wpE_nil (HQ _ fun w5 hG5 => ?_)
          simp only [closeS, List.drop_succ_cons, List.drop_zero, List.drop_nil]
          clear HQ hstart
          rintro v29 - v31 - v32 - v33 - v34 - v35 - v36 - v37 ⟨c, rfl⟩
          have hb5 := blk_kept HBS.out hG5.1 hgB
          have fz5 : ∀ j, w5.frozen? ⟨w2.heap.size, j, none⟩ = false := fun j => by simp [World.frozen?, hb5]
          have c5 : w5.cell? ⟨w2.heap.size, 1, none⟩ = some (.string SP) := cell_of_row w5 _ 1 _ _ _ hb5
          have HB5 := hide hb5
          have HG5 := hide hG5
          clear hb5 hG5
          go_wp2
          go_roundw
          case rel =>
            refine ⟨j, p ++ [c], rfl, by simp; omega, hide ?_, hide ?_, hide ?_⟩
            · simp [World.setCell, Array.getElem?_modify, HB5.out]
            · exact HG5.out.2.grown (grownBy_setCell_at w5 ⟨w2.heap.size, 1, none⟩ _) (fun k hk => by cases hk; show g < w2.heap.size; omega)
            · exact gb_own (HGX.out.trans HG5.out.1) (grownBy_setCell_at w5 ⟨w2.heap.size, 1, none⟩ _) (fun k hk => by cases hk; show wo.heap.size ≤ w2.heap.size; omega)
          case measure => simp [intOf]
end Go.Proofs.Ytjpmfiicbokdcaa
namespace Go.Proofs.Ytjpmfiicbokdcaa
open Go.RowKit
set_option linter.unusedVariables false
set_option linter.unusedSimpArgs false
theorem own_slice {w : World} {base size n : Nat} {e : TypeId} {v : Value} {xs : List Value} (h : w.ownsRow base e size v n xs) : ∃ a c, v = .slice a n c ∧ n ≤ c := by
  rcases h.2 with ⟨rfl, rfl⟩ | ⟨g, cap, cur, rfl, _, _, hn, _⟩
  · exact ⟨none, 0, rfl, Nat.le_refl _⟩
  · exact ⟨_, cap, rfl, hn⟩
/-- Records that the call owns, read. -/
theorem own_recs {w : World} {base n : Nat} {e : TypeId} {v : Value} {l : List Rec} (h : w.ownsRow base e 2 v n (l.flatMap recC)) (hn : n = l.length) : ∃ a c, v = .slice a n c ∧ n ≤ c ∧ IsRecs w a n l := by
  subst hn
  rcases h.2 with ⟨rfl, h0⟩ | ⟨g, cap, cur, rfl, hb, hg, hnc, _, _, ht⟩
  · refine ⟨none, 0, by rw [h0], by omega, rfl, .inl ?_⟩
    have : l = [] := List.eq_nil_of_length_eq_zero h0
    rw [this]; rfl
  · refine ⟨_, cap, rfl, hnc, rfl, .inr ⟨g, 0, rfl, (Array.getElem?_eq_some_iff.1 hg).1, fun k v hk => ?_⟩⟩
    have := h.cells (g := g) rfl k v hk
    rwa [Addr.add_lit] at this
def zeros9 : List UInt8 := [0, 0, 0, 0, 0, 0, 0, 0, 0]
theorem scan0 : IsScan zeros9 [] zeros9 := ⟨rfl, by simp, chkM_none (.inr (.inr (.inl ⟨by decide, by decide⟩)))⟩
theorem state0 : stateM zeros9 = 1 := by decide
theorem okT : okR ((2 : Int), [(116 : UInt8)]) := ⟨.inr rfl, by decide⟩
theorem scanT : IsScan (encR ((2 : Int), [(116 : UInt8)])) [((2 : Int), [(116 : UInt8)])] [] := ⟨by simp [encL], by intro r hr; simp at hr; subst hr; exact okT, rfl⟩
set_option maxRecDepth 100000 in
theorem known_any (w : World) : Calls Try.prog 37 #[] w fun e w' => e = .returned (.bool true) ∧ Below w.heap.size w w' := by
  obtain ⟨T, hT⟩ : ∃ T, T = bstr (encR ((2 : Int), [(116 : UInt8)])) := ⟨_, rfl⟩
  have hv : encV ((2 : Int), [(116 : UInt8)]) = .returned (.tuple #[.string T, .int .i64 0]) := by
    unfold encV
    rw [encO_ok okT, encE_ok okT, hT]; rfl
  have hts : T.size = 10 := by rw [str_size hT, encR_length]; rfl
  have HT := hide hT
  have HV := hide hv
  clear hT hv
  go_enter Try.func37, Try.ntmps37
  go_wp2_with fail
  refine (scan_any _ zeros9 [] zeros9 w rfl (by decide) scan0).mono ?_
  rintro e w1 ⟨v1, rfl, hown1, hb1⟩
  obtain ⟨a1, c1, rfl, _⟩ := own_slice hown1
  rw [state0, show (encL []).length = 0 from rfl, show ([] : List Rec).length = 0 from rfl]
  clear hown1
  go_wp2_with fail
  refine (enc_any 2 _ [116] w1 rfl (by decide)).mono ?_
  rintro e w2 ⟨rfl, hb2⟩
  rw [HV.out]
  go_wp2_with fail
  refine (scan_any T _ _ [] w2 HT.out (by rw [encR_length]; decide) scanT).mono ?_
  rintro e w3 ⟨v3, rfl, hown3, hb3⟩
  obtain ⟨a3, c3, rfl, _⟩ := own_slice hown3
  rw [show stateM [] = 0 from rfl, show (encL [((2 : Int), [(116 : UInt8)])]).length = 10 by rw [encL_cons, List.length_append, encR_length]; rfl, show ([((2 : Int), [(116 : UInt8)])] : List Rec).length = 1 from rfl]
  clear hown3
  go_wp2
  go_ret
  exact ⟨rfl, bl_trans hb1 (bl_trans hb2 hb3)⟩
end Go.Proofs.Ytjpmfiicbokdcaa
namespace Go.Proofs.Ytjpmfiicbokdcaa
open Go.RowKit
set_option linter.unusedVariables false
set_option linter.unusedSimpArgs false
theorem small_ok {r : Rec} (h : small r) : okR r := ⟨h.1, by have := h.2; omega⟩
theorem small_enc {l : List Rec} (h : ∀ r ∈ l, small r) : ∀ r ∈ l, jencE r = 0 := fun r hr => encE_ok (small_ok (h r hr))
theorem small_len {l : List Rec} (h : ∀ r ∈ l, small r) : (encL l).length ≤ 16 * l.length := by
  induction l with
  | nil => simp [encL]
  | cons q l ih =>
    have h1 := ih (fun r hr => h r (by simp [hr]))
    have h2 := (h q (by simp)).2
    rw [encL_cons, List.length_append, encR_length, List.length_cons]
    omega
theorem stateM_zero (rest : List UInt8) : stateM rest = 0 ↔ rest = [] := by
  unfold stateM
  by_cases h : rest = []
  · simp [h]
  · rw [if_neg h]
    constructor
    · intro h2; split at h2 <;> cases h2
    · intro h2; exact absurd h2 h
namespace journalAny
end journalAny
end Go.Proofs.Ytjpmfiicbokdcaa
namespace Go.Proofs.Ytjpmfiicbokdcaa
open Go.RowKit
set_option linter.unusedVariables false
set_option linter.unusedSimpArgs false
set_option maxRecDepth 100000 in
theorem same_any (a b : Option Addr) (n c d : Nat) (l : List Rec) (w : World) (ha : IsRecs w a n l) (hb : IsRecs w b n l) (hn : n ≤ 1000) (hc : n ≤ c) (hd : n ≤ d) :
    Calls Try.prog 36 #[.slice a n c, .slice b n d] w fun e w' => e = .returned (.bool true) ∧ Below w.heap.size w w' := by
  have HA := hide ha
  have HB := hide hb
  clear ha hb
  go_enter Try.func36, Try.ntmps36
  go_wp2_with fail
  go_loopw [13] (fun i wr => ∃ k : Nat, i = .int .i64 (k : Int) ∧ k ≤ n ∧ Below w.heap.size w wr) (fun i _ => n - (intOf i).toNat)
  case atStart => exact ⟨0, rfl, Nat.zero_le _, bl_refl w⟩
  case round =>
    obtain ⟨k, rfl, hk, hb⟩ := hrel
    by_cases hlt : k < n
    · obtain ⟨b1, o1, ⟨k1, p1⟩, rfl, hl1, hg1, e0, e1⟩ := (HA.out.below hb).at_ hlt
      obtain ⟨b2, o2, ⟨k2, p2⟩, rfl, hl2, hg2, e2, e3⟩ := (HB.out.below hb).at_ hlt
      rw [hg1] at hg2
      injection hg2 with hg2
      injection hg2 with q1 q2
      subst q1 q2
      simp only [] at e0 e1 e2 e3
      obtain ⟨SP, hSP⟩ : ∃ SP, SP = bstr p1 := ⟨_, rfl⟩
      rw [← hSP] at e1 e3
      clear hg1 hSP
      have hkn : (k : Int) < (n : Int) := by omega
      go_wp2_with fail
      have f0 : ∀ wx, CB wr.drew wx → wx.cell? ⟨b1, o1 + k * 2, none⟩ = some (.int .i64 k1) := fun wx h => h.cell e0
      have f1 : ∀ wx, CB wr.drew wx → wx.cell? ⟨b1, o1 + k * 2 + 1, none⟩ = some (.string SP) := fun wx h => h.cell e1
      have f2 : ∀ wx, CB wr.drew wx → wx.cell? ⟨b2, o2 + k * 2, none⟩ = some (.int .i64 k1) := fun wx h => h.cell e2
      have f3 : ∀ wx, CB wr.drew wx → wx.cell? ⟨b2, o2 + k * 2 + 1, none⟩ = some (.string SP) := fun wx h => h.cell e3
      refine wp_region_K 8 (by kernel_rfl) (by kernel_rfl) (fun Q HQ => ?_)
      simp only [List.take_succ_cons, List.take_zero, List.map_cons, List.map_nil]
      repeat
        first | apply wpS_c rfl | apply wpS_gc rfl (guard_mk rfl rfl)
        focus
          intro ev wx hC hx
          (try simp [Op.operands, Call.operands, opndS, Slot.holds] at hx)
          go_simp
          try (first | exact rfl | exact ⟨Below.refl _ _, rfl⟩)
          done
        dsimp only [setS, List.set]
      refine wpS_nil (HQ _ fun w3 hC3 => ?_)
      simp only [closeS, List.drop_succ_cons, List.drop_zero, List.drop_nil]
      clear HQ f0 f1 f2 f3
      have hb3 : Below w.heap.size w w3 := hb.trans (hC3.below.mono hb.size)
      go_wp2
      go_roundw
      case rel => exact ⟨k + 1, by go_num, by omega, hb3⟩
      case measure => simp [intOf]; omega
    · obtain rfl : k = n := by omega
      go_wp2
      go_ret
      exact ⟨rfl, hb⟩
theorem all_small {l : List Rec} (h : ∀ r ∈ l, small r) : allV l = .returned (.tuple #[.string (bstr (encL l)), .int .i64 0]) := allV_ok (small_enc h)
theorem small_p {l : List Rec} (h : ∀ r ∈ l, small r) : ∀ r ∈ l, r.2.length ≤ 1000 := fun r hr => by have := (h r hr).2; omega
theorem scan_enc {l : List Rec} (h : ∀ r ∈ l, small r) : IsScan (encL l) l [] := ⟨by simp, fun r hr => small_ok (h r hr), rfl⟩
namespace journalBack
end journalBack
namespace journalJoins
end journalJoins
end Go.Proofs.Ytjpmfiicbokdcaa
namespace Go.Proofs.Ytjpmfiicbokdcaa
set_option linter.unusedVariables false

theorem stpN_inj {n : Nat} {a b : BitVec 32} (h : stpN n a = stpN n b) : a = b := by
  have h1 : stpN n (a ^^^ b) = 0#32 := by rw [stpN_xor, h, BitVec.xor_self]
  have h2 := stpN_ne _ _ h1
  have h3 : a ^^^ b ^^^ b = b := by rw [h2, BitVec.zero_xor]
  rwa [BitVec.xor_assoc, BitVec.xor_self, BitVec.xor_zero] at h3
theorem xor_cancel {a b c : BitVec 32} (h : a ^^^ c = b ^^^ c) : a = b := by
  have h3 : a ^^^ c ^^^ c = b ^^^ c ^^^ c := by rw [h]
  rwa [BitVec.xor_assoc, BitVec.xor_self, BitVec.xor_zero, BitVec.xor_assoc, BitVec.xor_self, BitVec.xor_zero] at h3
theorem crcF_inj : ∀ (l : List UInt8) {u v : BitVec 32}, crcF u l = crcF v l → u = v
  | [], _, _, h => h
  | c :: l, _, _, h => xor_cancel (stpN_inj (crcF_inj l (u := crcB _ c) (v := crcB _ c) h))
theorem crcB_zero (v : BitVec 32) : crcB v 0 = stpN 8 v := by
  unfold crcB
  rw [show c32 0 = 0#32 by decide, BitVec.xor_zero]
theorem crcF_zeros (v : BitVec 32) : ∀ n, crcF v (List.replicate n 0) = stpN (8 * n) v
  | 0 => rfl
  | n + 1 => by
    rw [List.replicate_succ]
    show crcF (crcB v 0) (List.replicate n 0) = _
    rw [crcF_zeros _ n, crcB_zero, ← stpN_add]
    congr 1
theorem le32_ex (a b c d : UInt8) : ∃ z, le32 z = [a, b, c, d] := by
  have ha := a.toNat_lt
  have hb := b.toNat_lt
  have hc := c.toNat_lt
  have hd := d.toNat_lt
  refine ⟨BitVec.ofNat 32 (a.toNat + b.toNat * 256 + c.toNat * 65536 + d.toNat * 16777216), ?_⟩
  have e : (BitVec.ofNat 32 (a.toNat + b.toNat * 256 + c.toNat * 65536 + d.toNat * 16777216)).toNat = a.toNat + b.toNat * 256 + c.toNat * 65536 + d.toNat * 16777216 := by
    rw [BitVec.toNat_ofNat]; omega
  unfold le32 byt
  rw [e]
  have f : ∀ (x : UInt8) (n : Nat), n % 256 = x.toNat → UInt8.ofNat n = x := fun x n h => UInt8.toNat_inj.1 (by rw [UInt8.toNat_ofNat']; exact h)
  rw [f a _ (by omega), f b _ (by omega), f c _ (by omega), f d _ (by omega)]
theorem crcF_le32 (z : BitVec 32) : crcF 0#32 (le32 z) = stpN 32 z := by
  have h := crcF_xor (le32 z) [0, 0, 0, 0] z z rfl
  rw [BitVec.xor_self, crcF_own, BitVec.zero_xor] at h
  rw [show ([0, 0, 0, 0] : List UInt8) = List.replicate 4 0 from rfl, crcF_zeros] at h
  have e : xorL (le32 z) (List.replicate 4 0) = le32 z := by
    show [byt z 0 ^^^ 0, byt z 1 ^^^ 0, byt z 2 ^^^ 0, byt z 3 ^^^ 0] = [byt z 0, byt z 1, byt z 2, byt z 3]
    simp
  rw [e] at h
  exact h
theorem burst4 (d : List UInt8) (hl : d.length ≤ 4) (h : crcF 0#32 d = 0#32) : d = List.replicate d.length 0 := by
  have h1 : crcF 0#32 (d ++ List.replicate (4 - d.length) 0) = 0#32 := by
    unfold crcF at h ⊢
    rw [List.foldl_append, h]
    have := crcF_zeros 0#32 (4 - d.length)
    unfold crcF at this
    rw [this, stpN_zero]
  have h2 : (d ++ List.replicate (4 - d.length) 0).length = 4 := by simp; omega
  match hq : d ++ List.replicate (4 - d.length) 0, h2 with
  | [a, b, c, e], _ =>
    obtain ⟨z, hz⟩ := le32_ex a b c e
    rw [hq, ← hz, crcF_le32] at h1
    have h3 := stpN_ne _ _ h1
    subst h3
    have h4 : d = (d ++ List.replicate (4 - d.length) 0).take d.length := by rw [List.take_left']; rfl
    rw [hq, ← hz] at h4
    rw [h4, show le32 0#32 = List.replicate 4 0 by decide, List.take_replicate, List.length_replicate]
theorem xorL_zero {a b : List UInt8} (hl : a.length = b.length) (h : xorL a b = List.replicate a.length 0) : a = b := by
  induction a generalizing b with
  | nil => cases b with
    | nil => rfl
    | cons _ _ => simp at hl
  | cons x a ih => cases b with
    | nil => simp at hl
    | cons y b =>
      simp only [xorL, List.zipWith_cons_cons, List.length_cons, List.replicate_succ, List.cons.injEq] at h
      have h1 : x = y := UInt8.xor_eq_zero_iff.1 h.1
      rw [h1, ih (by simpa using hl) h.2]
/-- Two strings that differ in four bytes that stand together at most have different sums. -/
theorem crc_inj {pre m m' post : List UInt8} (hl : m.length = m'.length) (h4 : m.length ≤ 4) (h : crcN (pre ++ (m ++ post)) = crcN (pre ++ (m' ++ post))) : m = m' := by
  have h0 : crc (pre ++ (m ++ post)) = crc (pre ++ (m' ++ post)) := BitVec.eq_of_toNat_eq h
  unfold crc at h0
  have h1 : crcF 0xFFFFFFFF#32 (pre ++ (m ++ post)) = crcF 0xFFFFFFFF#32 (pre ++ (m' ++ post)) := by
    have := congrArg (fun v => ~~~v) h0
    simpa using this
  have e : ∀ (v : BitVec 32) (a b : List UInt8), crcF v (a ++ b) = crcF (crcF v a) b := fun v a b => by unfold crcF; rw [List.foldl_append]
  rw [e, e, e _ pre, e] at h1
  have h2 := crcF_inj post h1
  have h3 := crcF_xor m m' (crcF 0xFFFFFFFF#32 pre) (crcF 0xFFFFFFFF#32 pre) hl
  rw [BitVec.xor_self, h2, BitVec.xor_self] at h3
  have h4' := burst4 _ (by rw [xorL_length _ _ hl]; exact h4) h3
  rw [xorL_length _ _ hl] at h4'
  exact xorL_zero hl h4'

theorem be4L_inj {a b : Nat} (ha : a < 4294967296) (hb : b < 4294967296) (h : be4L a = be4L b) : a = b := by
  unfold be4L at h
  simp only [List.cons.injEq] at h
  have h1 := be4_be4L a ha
  rw [h.1, h.2.1, h.2.2.1, h.2.2.2.1, be4_be4L b hb] at h1
  exact h1.symm
theorem encR_take4 (r : Rec) : (encR r).take 4 = be4L r.2.length := rfl
theorem kb_ok {r : Rec} (h : okR r) : kb r.1 ≠ 0 := by
  rcases h.1 with h | h <;> rw [h] <;> decide
theorem encR_inj {q r : Rec} (hq : okR q) (hr : okR r) (h : encR q = encR r) : q = r := by
  have h1 := nextM_enc hq []
  rw [h, nextM_enc hr] at h1
  injection h1 with h1
  exact h1.symm
/-- Where the first bytes are those of a record, what is parsed has its length. -/
theorem same_len {q r : Rec} {s t : List UInt8} (hq : okR q) (hr : okR r) (hs : s = encR q ++ t) (h4 : s.take 4 = be4L r.2.length) : q.2.length = r.2.length := by
  have h1 : s.take 4 = be4L q.2.length := by
    rw [hs, List.take_append_of_le_length (by rw [encR_length]; omega)]
    exact encR_take4 q
  exact be4L_inj (by have := hq.2; omega) (by have := hr.2; omega) (h1.symm.trans h4)
/-- Two encodings of equal length whose bodies differ in at most four bytes that stand together, the heads being alike, are one. -/
theorem body_one {q r : Rec} (hl : q.2.length = r.2.length) {pre m m' post : List UInt8} (h8 : (encR q).take 8 = (encR r).take 8) (hq : kb q.1 :: q.2 = pre ++ (m ++ post)) (hr : kb r.1 :: r.2 = pre ++ (m' ++ post)) (hm : m.length = m'.length) (h4 : m.length ≤ 4) : m = m' := by
  have e : ∀ r : Rec, (encR r).take 8 = be4L r.2.length ++ be4L (crcN (kb r.1 :: r.2)) := fun r => rfl
  rw [e, e, hl] at h8
  have h9 := List.append_cancel_left h8
  have h10 := be4L_inj (crcN_lt _) (crcN_lt _) h9
  rw [hq, hr] at h10
  exact crc_inj hm h4 h10
theorem encR_drop8 (r : Rec) : (encR r).drop 8 = kb r.1 :: r.2 := rfl
theorem stop_len {s : List UInt8} {y : List Rec} {rest : List UInt8} (h : IsScan s y rest) (hn : nextM s = none) : y = [] ∧ rest = s := by
  cases y with
  | nil => exact ⟨rfl, by have := h.eq; rw [encL_nil, List.nil_append] at this; exact this.symm⟩
  | cons q y =>
    have h1 := nextM_enc (h.ok q (by simp)) (encL y ++ rest)
    rw [← List.append_assoc, ← encL_cons, ← h.eq, hn] at h1
    cases h1
theorem step_scan {r : Rec} {s t : List UInt8} {y : List Rec} {rest : List UInt8} (h : IsScan s y rest) (hr : okR r) (hs : s = encR r ++ t) : ∃ y', y = r :: y' ∧ IsScan t y' rest := by
  cases y with
  | nil =>
    have h1 := h.eq
    rw [encL_nil, List.nil_append] at h1
    have h2 := nextM_enc hr t
    rw [← hs, h1, h.stop] at h2
    cases h2
  | cons q y =>
    have h1 := nextM_enc (h.ok q (by simp)) (encL y ++ rest)
    rw [← List.append_assoc, ← encL_cons, ← h.eq, hs, nextM_enc hr] at h1
    injection h1 with h1
    subst h1
    refine ⟨y, rfl, ?_, fun q hq => h.ok q (by simp [hq]), h.stop⟩
    have h2 := h.eq
    rw [hs, encL_cons, List.append_assoc] at h2
    exact List.append_cancel_left h2
theorem state_short {rest : List UInt8} (h : rest.length < 9) : stateM rest ≠ 2 := by
  unfold stateM
  by_cases h0 : rest = []
  · rw [if_pos h0]; decide
  · rw [if_neg h0, if_pos (.inl h)]; decide
theorem state_last {rest : List UInt8} (h : rest.getLast? = some 0) : stateM rest ≠ 2 := by
  unfold stateM
  by_cases h0 : rest = []
  · rw [if_pos h0]; decide
  · rw [if_neg h0, if_pos (.inr (.inr h))]; decide
theorem state_len {rest : List UInt8} {n : Nat} (hn : n < 4294967296) (h4 : rest.take 4 = be4L n) (h : rest.length < 9 + n) : stateM rest ≠ 2 := by
  unfold stateM
  by_cases h0 : rest = []
  · rw [if_pos h0]; decide
  · have e : be4 (rest.getD 0 0) (rest.getD 1 0) (rest.getD 2 0) (rest.getD 3 0) = n := by
      match rest, h4 with
      | a :: b :: c :: d :: t, h4 =>
        have h5 : [a, b, c, d] = be4L n := h4
        unfold be4L at h5
        simp only [List.cons.injEq] at h5
        show be4 a b c d = n
        rw [h5.1, h5.2.1, h5.2.2.1, h5.2.2.2.1, be4_be4L n hn]
      | [], h4 => simp [be4L] at h4
      | [_], h4 => simp [be4L] at h4
      | [_, _], h4 => simp [be4L] at h4
      | [_, _, _], h4 => simp [be4L] at h4
    rw [if_neg h0, if_pos (.inr (.inl (by rw [e]; exact h)))]; decide
theorem scan_short {s : List UInt8} (h : s.length < 9) : nextM s = none := by
  cases hn : nextM s with
  | none => rfl
  | some q =>
    obtain ⟨_, t, rfl⟩ := nextM_some hn
    rw [List.length_append, encR_length] at h
    omega
theorem torn_law : ∀ (x : List Rec) (n z : Nat) (y : List Rec) (rest : List UInt8), (∀ r ∈ x, okR r) → n ≤ (encL x).length → z ≤ n → z ≤ 4 → IsScan ((encL x).take (n - z) ++ List.replicate z 0) y rest →
    y <+: x ∧ stateM rest ≠ 2 ∧ (y.length < x.length → n - z < (encL (x.take (y.length + 1))).length)
  | [], n, z, y, rest, hx, hn, hz, h4, h => by
    have hn0 : n = 0 := by simpa [encL] using hn
    subst hn0
    have hz0 : z = 0 := by omega
    subst hz0
    obtain ⟨rfl, rfl⟩ := stop_len h (scan_short (by simp [encL]))
    exact ⟨List.prefix_refl _, state_short (by simp [encL]), fun h => by simp at h⟩
  | r :: x, n, z, y, rest, hx, hn, hz, h4, h => by
    have hr := hx r (by simp)
    have hx' : ∀ q ∈ x, okR q := fun q hq => hx q (by simp [hq])
    have hR := encR_length r
    rw [encL_cons] at hn h
    rw [List.length_append] at hn
    by_cases hc : (encR r).length ≤ n - z
    · obtain ⟨y', rfl, h'⟩ := step_scan (t := (encL x).take (n - (encR r).length - z) ++ List.replicate z 0) h hr (by
        rw [List.take_append, List.take_of_length_le hc, List.append_assoc, show n - z - (encR r).length = n - (encR r).length - z by omega])
      obtain ⟨h1, h2, h3⟩ := torn_law x (n - (encR r).length) z y' rest hx' (by omega) (by omega) h4 h'
      refine ⟨(List.prefix_cons_inj r).2 h1, h2, fun hl => ?_⟩
      have := h3 (by simpa using hl)
      rw [List.length_cons, List.take_succ_cons, encL_cons, List.length_append]
      omega
    · have hcR : n - z < (encR r).length := by omega
      have htk : (encR r ++ encL x).take (n - z) = (encR r).take (n - z) := List.take_append_of_le_length (by omega)
      rw [htk] at h
      have hlen : ((encR r).take (n - z) ++ List.replicate z (0 : UInt8)).length = n := by simp; omega
      cases hnx : nextM ((encR r).take (n - z) ++ List.replicate z 0) with
      | none =>
        obtain ⟨rfl, rfl⟩ := stop_len h hnx
        refine ⟨List.nil_prefix, ?_, fun _ => ?_⟩
        · rcases Nat.eq_zero_or_pos z with h0 | h0
          · subst h0
            by_cases h9 : n < 9
            · exact state_short (by rw [hlen]; exact h9)
            · refine state_len (n := r.2.length) (by have := hr.2; omega) ?_ (by rw [hlen]; omega)
              rw [List.replicate_zero, List.append_nil, List.take_take, Nat.min_eq_left (by omega)]
              exact encR_take4 r
          · refine state_last ?_
            rw [List.getLast?_append, List.getLast?_replicate, if_neg (by omega)]
            rfl
        · rw [List.length_nil, Nat.zero_add, List.take_succ_cons, List.take_zero, encL_cons, encL_nil, List.append_nil]
          exact hcR
      | some q =>
        obtain ⟨hq, t, hs⟩ := nextM_some hnx
        have hQ := encR_length q
        have hln := congrArg List.length hs
        rw [hlen, List.length_append] at hln
        have h5 : 5 ≤ n - z := by omega
        have hql : q.2.length = r.2.length := same_len hq hr hs (by
          rw [List.take_append_of_le_length (by simp; omega), List.take_take, Nat.min_eq_left (by omega)]
          exact encR_take4 r)
        have hRQ : (encR q).length = (encR r).length := by omega
        -- the first bytes of the encoding of q
        have hpre : ∀ j, j ≤ n - z → (encR q).take j = (encR r).take j := fun j hj => by
          have h1 : ((encR r).take (n - z) ++ List.replicate z (0 : UInt8)).take j = (encR r).take j := by
            rw [List.take_append_of_le_length (by simp; omega), List.take_take, Nat.min_eq_left hj]
          rw [hs, List.take_append_of_le_length (by omega)] at h1
          exact h1
        have hc8 : ¬ n - z ≤ 8 := by
          intro h8
          have h1 : ((encR r).take (n - z) ++ List.replicate z (0 : UInt8))[8]? = some 0 := by
            rw [List.getElem?_append_right (by simp; omega), List.getElem?_replicate]
            rw [if_pos (by simp; omega)]
          rw [hs, List.getElem?_append_left (by omega)] at h1
          have h2 : (encR q)[8]? = some (kb q.1) := rfl
          rw [h2] at h1
          injection h1 with h1
          exact kb_ok hq h1
        have hbody : ∀ r : Rec, ∀ c, 8 ≤ c → kb r.1 :: r.2 = ((encR r).take c).drop 8 ++ ((encR r).drop c ++ []) := fun r c hc => by
          rw [List.append_nil, ← encR_drop8 r]
          have e1 : (encR r).drop c = ((encR r).drop 8).drop (c - 8) := by rw [List.drop_drop]; congr 1; omega
          rw [e1, List.drop_take, List.take_append_drop]
        have hm := body_one hql (hpre 8 (by omega)) (hbody q (n - z) (by omega)) (by rw [hbody r (n - z) (by omega), hpre (n - z) (Nat.le_refl _)]) (by rw [List.length_drop, List.length_drop, hRQ]) (by rw [List.length_drop]; omega)
        have hqr : q = r := encR_inj hq hr (by
          rw [← List.take_append_drop (n - z) (encR q), ← List.take_append_drop (n - z) (encR r), hm, hpre (n - z) (Nat.le_refl _)])
        subst hqr
        obtain ⟨y', rfl, h'⟩ := step_scan h hq hs
        have htl : t.length < 9 := by omega
        obtain ⟨rfl, rfl⟩ := stop_len h' (scan_short htl)
        refine ⟨⟨x, rfl⟩, state_short htl, fun _ => ?_⟩
        rw [List.length_cons, List.length_nil, List.take_succ_cons, encL_cons, List.length_append]
        omega
/-- A byte behind the length of a record is changed. -/
theorem damage_law : ∀ (x : List Rec) (k : Nat) (c o : UInt8) (y : List Rec) (rest : List UInt8), (∀ r ∈ x, okR r) → (encL x)[k]? = some o → c ≠ o →
    (∀ j, j < x.length → ¬ ((encL (x.take j)).length ≤ k ∧ k < (encL (x.take j)).length + 4)) → IsScan ((encL x).set k c) y rest → y <+: x ∧ (encL y).length ≤ k
  | [], k, c, o, y, rest, hx, hk, hc, hf, h => by simp [encL] at hk
  | r :: x, k, c, o, y, rest, hx, hk, hc, hf, h => by
    have hr := hx r (by simp)
    have hx' : ∀ q ∈ x, okR q := fun q hq => hx q (by simp [hq])
    have hR := encR_length r
    rw [encL_cons] at hk h
    have h0 := hf 0 (by simp)
    rw [List.take_zero, encL_nil, List.length_nil] at h0
    by_cases hkR : (encR r).length ≤ k
    · rw [List.set_append_right _ _ hkR] at h
      rw [List.getElem?_append_right hkR] at hk
      obtain ⟨y', rfl, h'⟩ := step_scan h hr rfl
      obtain ⟨h1, h2⟩ := damage_law x (k - (encR r).length) c o y' rest hx' hk hc (fun j hj hjk => by
        have := hf (j + 1) (by simpa using hj)
        rw [List.take_succ_cons, encL_cons, List.length_append] at this
        omega) h'
      refine ⟨(List.prefix_cons_inj r).2 h1, ?_⟩
      rw [encL_cons, List.length_append]
      omega
    · have hkl : k < (encR r).length := by omega
      rw [List.set_append_left _ _ hkl] at h
      rw [List.getElem?_append_left hkl] at hk
      cases hnx : nextM ((encR r).set k c ++ encL x) with
      | none =>
        obtain ⟨rfl, _⟩ := stop_len h hnx
        exact ⟨List.nil_prefix, Nat.zero_le _⟩
      | some q =>
        exfalso
        obtain ⟨hq, t, hs⟩ := nextM_some hnx
        have hQ := encR_length q
        have h4k : 4 ≤ k := by omega
        have hql : q.2.length = r.2.length := same_len hq hr hs (by
          rw [List.take_append_of_le_length (by simp; omega), List.take_set_of_le (by omega)]
          exact encR_take4 r)
        have hqe : encR q = (encR r).set k c := by
          have h1 := congrArg (List.take (encR q).length) hs
          rw [List.take_left' rfl, List.take_append_of_le_length (by simp; omega), List.take_of_length_le (by simp; omega)] at h1
          exact h1.symm
        by_cases h8 : k < 8
        · have h1 : (encR q).drop 8 = (encR r).drop 8 := by rw [hqe, List.drop_set_of_lt h8]
          rw [encR_drop8, encR_drop8] at h1
          have h2 : encR q = encR r := by unfold encR; rw [h1, hql]
          rw [hqe] at h2
          have h3 := congrArg (fun l => l[k]?) h2
          simp only [List.getElem?_set_self hkl, hk] at h3
          injection h3 with h3
          exact hc h3
        · have h8' : (encR q).take 8 = (encR r).take 8 := by rw [hqe, List.take_set_of_le (by omega)]
          obtain ⟨hk1, hk2⟩ := List.getElem?_eq_some_iff.1 hk
          have hsplit : encR r = (encR r).take k ++ (o :: (encR r).drop (k + 1)) := by
            rw [← hk2, ← List.drop_eq_getElem_cons hk1, List.take_append_drop]
          have hsplit' : encR q = (encR r).take k ++ (c :: (encR r).drop (k + 1)) := by
            rw [hqe, List.set_eq_take_append_cons_drop, if_pos hkl]
          have hb1 : kb r.1 :: r.2 = ((encR r).take k).drop 8 ++ ([o] ++ (encR r).drop (k + 1)) := by
            rw [← encR_drop8 r]
            conv => lhs; rw [hsplit]
            rw [List.drop_append_of_le_length (by simp; omega)]
            rfl
          have hb2 : kb q.1 :: q.2 = ((encR r).take k).drop 8 ++ ([c] ++ (encR r).drop (k + 1)) := by
            rw [← encR_drop8 q]
            conv => lhs; rw [hsplit']
            rw [List.drop_append_of_le_length (by simp; omega)]
            rfl
          have := body_one hql h8' hb2 hb1 rfl (by simp)
          injection this with this
          exact hc this
end Go.Proofs.Ytjpmfiicbokdcaa
