/- Blocks of the call's own as lists of cells; worlds that are as they were but for one block. The walks of the scanner's sees, eat and name. The program's iterator over the units of a string of one byte; its Valid. The walks of markup's ValidValue and Unescape at a string of one byte; has and sorted at no pairs. The walks of the scanner's value and key. -/
import Derived.Test.YtbpkclopcoaikaaGreatDoorMc
import Derived.Test.YtbpkclopcoaikaaGreatDoorMd
import Derived.RangeFuncNested
import Derived.RangeFuncBox
import Derived.RangeFuncBound
import Derived.RangeFuncCalls
import Derived.RangeFuncLeaves
import Derived.Shelf.Abstract
import Derived.Shelf.RegionOpen
import Derived.OwnWalkIn
import Derived.TacticsInMore
import Derived.LoopNIn
import Derived.LoopIn
import Derived.Lib.OthersKept
import Derived.Laws.RangeAny
import Derived.Laws.ResultCell
import Derived.Test.YtbpkclopcoaikaaGreatDoorMa
import Derived.Test.YtbpkclopcoaikaaGreatDoorProg
import Derived.OwnWalk
namespace Go.Proofs.YtbpkclopcoaikaaGreatDoor
open Go.RowKit
set_option linter.unusedVariables false
/-- The block g has the cells cs. -/
def Blk (w : World) (g : Nat) (cs : List Value) (t : TypeId) : Prop := w.heap[g]? = some (.cells cs.toArray t (0, 0))
theorem Blk.lt {w : World} {g : Nat} {cs : List Value} {t : TypeId} (h : Blk w g cs t) : g < w.heap.size := (Array.getElem?_eq_some_iff.1 h).1
theorem Blk.cell {w : World} {g : Nat} {cs : List Value} {t : TypeId} (h : Blk w g cs t) {k : Nat} {v : Value} (hk : cs[k]? = some v) : w.cell? ⟨g, k, none⟩ = some v := by
  rw [cell_of_row w g k _ _ _ h]; simpa using hk
theorem Blk.fr {w : World} {g : Nat} {cs : List Value} {t : TypeId} (h : Blk w g cs t) (j : Nat) : w.frozen? ⟨g, j, none⟩ = false := by
  unfold Blk at h
  simp [World.frozen?, h]
theorem Blk.set {w : World} {g : Nat} {cs : List Value} {t : TypeId} (h : Blk w g cs t) (k : Nat) (v : Value) : Blk (w.setCell ⟨g, k, none⟩ v) g (cs.set k v) t := by
  unfold Blk at h ⊢
  simp [World.setCell, Array.getElem?_modify, h]
theorem Blk.setne {w : World} {g g' : Nat} {cs : List Value} {t : TypeId} (h : Blk w g cs t) (hne : g ≠ g') (k : Nat) (v : Value) : Blk (w.setCell ⟨g', k, none⟩ v) g cs t := by
  unfold Blk at h ⊢
  rw [← h]
  exact Go.RowKit.Below.heap_setCell w ⟨g', k, none⟩ v g hne
theorem Blk.below {w w' : World} {g : Nat} {cs : List Value} {t : TypeId} (h : Blk w g cs t) (hb : Below w.heap.size w w') : Blk w' g cs t := (hb.block g h.lt).trans h
theorem Blk.alloc {w : World} {g : Nat} {cs : List Value} {t : TypeId} (h : Blk w g cs t) (o : Obj) : Blk (w.alloc o) g cs t := h.below (bl_alloc (bl_refl w) o)
theorem Blk.drew {w : World} {g : Nat} {cs : List Value} {t : TypeId} (h : Blk w g cs t) : Blk w.drew g cs t := h
theorem Blk.grown {w w' : World} {g : Nat} {cs : List Value} {t : TypeId} {row : Option Nat} (h : Blk w g cs t) (hg : w.grownBy w' row) (hr : row ≠ some g) : Blk w' g cs t := (hg.block g h.lt (Ne.symm hr)).trans h
theorem Blk.new (w : World) (cs : List Value) (t : TypeId) : Blk (w.alloc (.cells cs.toArray t)) w.heap.size cs t := by
  unfold Blk
  exact heap_alloc_new w _
theorem Blk.newG {w : World} {g : Nat} (hg : g = w.heap.size) (cs : List Value) (t : TypeId) : Blk (w.alloc (.cells cs.toArray t)) g cs t := by
  subst hg; exact Blk.new w cs t
theorem Blk.kept {w w' : World} {g : Nat} {cs : List Value} {t : TypeId} (h : Blk w g cs t) (he : w'.heap[g]? = w.heap[g]?) : Blk w' g cs t := he.trans h
/-- w' is w but for the block g; w' may have more blocks. -/
structure KG (g : Nat) (w w' : World) : Prop where
  os : w'.os = w.os
  tape : w'.tape = w.tape
  output : w'.output = w.output
  size : w.heap.size ≤ w'.heap.size
  block : ∀ k, k < w.heap.size → k ≠ g → w'.heap[k]? = w.heap[k]?
theorem KG.refl (g : Nat) (w : World) : KG g w w := ⟨rfl, rfl, rfl, Nat.le_refl _, fun _ _ _ => rfl⟩
theorem KG.trans {g : Nat} {a b c : World} (h : KG g a b) (k : KG g b c) : KG g a c :=
  ⟨k.os.trans h.os, k.tape.trans h.tape, k.output.trans h.output, Nat.le_trans h.size k.size, fun i hi hn => (k.block i (Nat.lt_of_lt_of_le hi h.size) hn).trans (h.block i hi hn)⟩
theorem KG.of {g : Nat} {a b : World} (h : Below a.heap.size a b) : KG g a b := ⟨h.os, h.tape, h.output, h.size, fun k hk _ => h.block k hk⟩
theorem KG.setCell {g : Nat} {a w : World} (h : KG g a w) (k : Nat) (u : Value) : KG g a (w.setCell ⟨g, k, none⟩ u) :=
  h.trans ⟨rfl, rfl, rfl, by simp [World.setCell], fun i _ hn => Go.RowKit.Below.heap_setCell w ⟨g, k, none⟩ u i hn⟩
theorem KG.set_new {g : Nat} {a w : World} (h : KG g a w) {b : Nat} (hb : a.heap.size ≤ b) (k : Nat) (u : Value) : KG g a (w.setCell ⟨b, k, none⟩ u) :=
  ⟨h.os, h.tape, h.output, by simpa [World.setCell] using h.size, fun i hi hn => (Go.RowKit.Below.heap_setCell w ⟨b, k, none⟩ u i (by simp only; omega)).trans (h.block i hi hn)⟩
theorem KG.alloc {g : Nat} {a w : World} (h : KG g a w) (o : Obj) : KG g a (w.alloc o) := h.trans (.of (bl_alloc (bl_refl w) o))
theorem KG.drew {g : Nat} {a w : World} (h : KG g a w) : KG g a w.drew := h.trans (.of (bl_drew (bl_refl w)))
theorem KG.below {g B : Nat} {a b : World} (h : KG g a b) (hg : B ≤ g) (hB : B ≤ a.heap.size) : Below B a b := ⟨h.os, h.tape, h.output, h.size, fun k hk => h.block k (by omega) (by omega)⟩
theorem Blk.kg {w w' : World} {g k : Nat} {cs : List Value} {t : TypeId} (h : Blk w k cs t) (hg : KG g w w') (hn : k ≠ g) : Blk w' k cs t := (hg.block k h.lt hn).trans h
theorem own_kg {w w' : World} {g base size : Nat} {e : TypeId} {v : Value} {n : Nat} {xs : List Value} (h : w.ownsRow base e size v n xs) (hg : KG g w w') (hn : v.ownBlock ≠ some g) : w'.ownsRow base e size v n xs :=
  ownG_blocks h fun q hq => hg.block q (ownG_lt h hq).2 (fun e => hn (by rw [hq, e]))
theorem Rd.kg {w w' : World} {g : Nat} {a : Option Addr} {xs : List Value} (h : Rd w a xs) (hg : KG g w w') (hn : ∀ b, a = some b → b.block ≠ g) : Rd w' a xs := by
  rcases h with rfl | ⟨b, o, rfl, hb, hc⟩
  · exact .inl rfl
  · exact .inr ⟨b, o, rfl, Nat.lt_of_lt_of_le hb hg.size, fun k v hv => by
      have := hc k v hv
      unfold World.cell? at this ⊢
      rw [hg.block b hb (hn _ rfl)]
      exact this⟩
end Go.Proofs.YtbpkclopcoaikaaGreatDoor
namespace Go.Proofs.YtbpkclopcoaikaaGreatDoor
open Go.RowKit
set_option linter.unusedVariables false
set_option linter.unusedSimpArgs false
/-- The scanner g reads the bytes l from k on. -/
def ScI (w : World) (g : Nat) (l : List UInt8) (k : Nat) : Prop := Blk w g [.string (bstr l), .int .i64 (k : Int)] 138
def seesB (l : List UInt8) (k : Nat) (c : UInt8) : Bool := l[k]? == some c
set_option maxHeartbeats 4000000 in
set_option maxRecDepth 100000 in
theorem sees_any (g : Nat) (l : List UInt8) (k : Nat) (c : UInt8) (w : World) (h : ScI w g l k) (hl : l.length ≤ 1000) : Calls Tryz.prog 116 #[.pointer (some ⟨g, 0, none⟩), .int .u8 (c.toNat : Int)] w fun e w' => e = .returned (.bool (seesB l k c)) ∧ Below w.heap.size w w' := by
  obtain ⟨S, hS⟩ := (⟨_, rfl⟩ : ∃ S, S = bstr l)
  unfold ScI at h
  rw [← hS] at h
  have q0 := h.cell (k := 0) rfl
  have q1 := h.cell (k := 1) rfl
  have HS := hide hS
  have HSZ := hide (str_size hS)
  obtain ⟨R, hR⟩ : ∃ R, R = seesB l k c := ⟨_, rfl⟩
  rw [← hR]
  have HR := hide hR
  clear h hS hR
  by_cases hk : k < l.length
  · have hsz : (k : Int) < (S.size : Int) := by have := HSZ.out; omega
    obtain ⟨d, hd, HD⟩ := str_at HS.out hk
    have hks : k < S.size := by omega
    have hx : S[k]'hks = d := HD hks
    have HE : Hid (R = (d == c)) := hide (by rw [HR.out]; unfold seesB; rw [hd]; rfl)
    clear HD hd
    by_cases hdc : d = c
    · have hdc' : ((d.toNat : Int) == (c.toNat : Int)) = true := by rw [hdc]; simp
      have HE2 : Hid (R = true) := hide (by rw [HE.out, hdc]; simp)
      clear hdc
      go_enter Tryz.func116, Tryz.ntmps116
      go_wp2_with fail
      go_quiet (fail)
      go_wp2
      go_ret
      exact ⟨by rw [HE2.out]; rfl, bl_drewN (bl_refl w) _⟩
    · have hdc' : ((d.toNat : Int) == (c.toNat : Int)) = false := by rw [beq_eq_false_iff_ne]; intro h; exact hdc (UInt8.toNat_inj.1 (by omega))
      have HE2 : Hid (R = false) := hide (by rw [HE.out]; simp [hdc])
      clear hdc
      go_enter Tryz.func116, Tryz.ntmps116
      go_wp2_with fail
      go_quiet (fail)
      go_wp2
      go_ret
      exact ⟨by rw [HE2.out]; rfl, bl_drewN (bl_refl w) _⟩
  · have hsz : ¬ (k : Int) < (S.size : Int) := by have := HSZ.out; omega
    have hsd : decide ((k : Int) < (S.size : Int)) = false := by rw [decide_eq_false_iff_not]; exact hsz
    have hsd2 : decide (k < S.size) = false := by rw [decide_eq_false_iff_not]; omega
    have HE : Hid (R = false) := hide (by rw [HR.out]; unfold seesB; rw [List.getElem?_eq_none (by omega)]; rfl)
    go_enter Tryz.func116, Tryz.ntmps116
    go_wp2_with fail
    go_quiet (fail)
    go_wp2
    go_ret
    exact ⟨by rw [HE.out]; rfl, bl_drewN (bl_refl w) _⟩
theorem sees_yes {l : List UInt8} {k : Nat} {c : UInt8} (h : l[k]? = some c) : seesB l k c = true := by unfold seesB; rw [h]; simp
theorem sees_no {l : List UInt8} {k : Nat} {c : UInt8} (h : l[k]? ≠ some c) : seesB l k c = false := by unfold seesB; rw [beq_eq_false_iff_ne]; exact h
set_option maxHeartbeats 4000000 in
set_option maxRecDepth 100000 in
theorem eat_any (g : Nat) (l : List UInt8) (k : Nat) (c : UInt8) (w : World) (h : ScI w g l k) (hl : l.length ≤ 1000) (hc : l[k]? = some c) : Calls Tryz.prog 115 #[.pointer (some ⟨g, 0, none⟩), .int .u8 (c.toNat : Int)] w fun e w' => e = .returned (.tuple #[]) ∧ KG g w w' ∧ ScI w' g l (k + 1) := by
  have HK := hide h
  have hkl : k < 1000 := by have := (List.getElem?_eq_some_iff.1 hc).1; omega
  have HS : Hid (∀ wx, ScI wx g l k → Calls Tryz.prog 116 #[.pointer (some ⟨g, 0, none⟩), .int .u8 (c.toNat : Int)] wx fun e w' => e = .returned (.bool true) ∧ Below wx.heap.size wx w') := hide (fun wx hx => by
    have := sees_any g l k c wx hx hl
    rw [sees_yes hc] at this
    exact this)
  clear h hc
  go_enter Tryz.func115, Tryz.ntmps115
  go_wp2_with fail
  refine (HS.out w HK.out).mono ?_
  rintro e w1 ⟨rfl, hb⟩
  have h1 : ScI w1 g l k := Blk.below HK.out hb
  have HB := hide hb
  have q1 := Blk.cell h1 (k := 1) rfl
  have f1 := Blk.fr h1 1
  have HN : Hid (ScI (w1.setCell ⟨g, 1, none⟩ (.int .i64 ((k : Int) + 1))) g l (k + 1)) := hide (Blk.set h1 1 (.int .i64 ((k : Int) + 1)))
  have HKG := hide ((KG.of (g := g) hb).setCell 1 (.int .i64 ((k : Int) + 1)))
  clear h1 hb
  go_wp2
  go_end0
  exact ⟨rfl, HKG.out, HN.out⟩
/-- The name in l from k on ends at m. -/
structure NmAt (l : List UInt8) (k m : Nat) : Prop where
  km : k < m
  le : m ≤ k + 32
  ml : m ≤ l.length
  b : ∃ c, l[k]? = some c ∧ firstB c = true
  g : ∀ j, k ≤ j → j < m → ∃ c, l[j]? = some c ∧ nextB c = true
  e : ∀ c, l[m]? = some c → nextB c = false
set_option maxHeartbeats 8000000 in
set_option maxRecDepth 100000 in
theorem sname_any (g : Nat) (l : List UInt8) (k m : Nat) (w : World) (h : ScI w g l k) (hl : l.length ≤ 1000) (hn : NmAt l k m) : Calls Tryz.prog 117 #[.pointer (some ⟨g, 0, none⟩)] w fun e w' => e = .returned (.string (bstr ((l.take m).drop k))) ∧ KG g w w' ∧ ScI w' g l m := by
  obtain ⟨S, hS⟩ := (⟨_, rfl⟩ : ∃ S, S = bstr l)
  have HK : Hid (Blk w g [.string S, .int .i64 (k : Int)] 138) := hide (by rw [hS]; exact h)
  have HS := hide hS
  have HSZ := hide (str_size hS)
  have HN := hide hn
  have hkm := hn.km
  have hml := hn.ml
  have hle := hn.le
  obtain ⟨R, hR⟩ : ∃ R, R = bstr ((l.take m).drop k) := ⟨_, rfl⟩
  have HR : Hid (S.extract k m = R) := hide (by rw [hR]; exact str_sub hS k m)
  rw [← hR]
  have HSC : Hid (∀ wx, Blk wx g [.string S, .int .i64 (m : Int)] 138 → ScI wx g l m) := hide (fun wx hx => by unfold ScI; rw [← hS]; exact hx)
  clear h hS hR hn
  have q0 := HK.out.cell (k := 0) rfl
  have q1 := HK.out.cell (k := 1) rfl
  have hsz : (k : Int) < (S.size : Int) := by have := HSZ.out; omega
  have hsz2 : ((k : Int) == (S.size : Int)) = false := by rw [beq_eq_false_iff_ne]; omega
  have hks : k < S.size := by omega
  obtain ⟨c, hc, hcb⟩ := HN.out.b
  have hx : S[k]'hks = c := str_get HS.out hc hks
  have HF : Hid (∀ wx, Calls Tryz.prog 80 #[.int .u8 (c.toNat : Int)] wx fun e w' => e = .returned (.bool true) ∧ wx = w') := hide (fun wx => hcb ▸ begins_any c wx)
  clear hc hcb
  go_enter Tryz.func117, Tryz.ntmps117
  go_wp2_with fail
  refine (HF.out _).mono ?_
  rintro e w' ⟨rfl, rfl⟩
  go_wp2_with fail
  clear q0 q1 hx HF hsz2
  go_loopw [] (fun wr => ∃ j : Nat, k ≤ j ∧ j ≤ m ∧ Hid (Blk wr g [.string S, .int .i64 (j : Int)] 138) ∧ Hid (KG g w wr)) (fun wr => m - (intOf ((wr.cell? ⟨g, 1, none⟩).getD undef)).toNat)
  case atStart => exact ⟨k, Nat.le_refl _, by omega, HK, hide (KG.refl g w)⟩
  case round =>
    obtain ⟨j, hkj, hjm, HKj, HG⟩ := hrel
    have q0 := HKj.out.cell (k := 0) rfl
    have q1 := HKj.out.cell (k := 1) rfl
    by_cases hj : j < m
    · obtain ⟨c, hc, hcb⟩ := HN.out.g j hkj hj
      have hj1 : (j : Int) < (S.size : Int) := by have := HSZ.out; omega
      have hj2 : j < S.size := by omega
      have hx : S[j]'hj2 = c := str_get HS.out hc hj2
      have HF : Hid (∀ wx, Calls Tryz.prog 81 #[.int .u8 (c.toNat : Int)] wx fun e w' => e = .returned (.bool true) ∧ w' = wx) := hide (fun wx => (hcb ▸ goesOn_any c wx).mono fun e w' ⟨h1, h2⟩ => ⟨h1, h2.symm⟩)
      clear hc hcb
      go_wp2_with fail
      go_quiet ((go_at_call 81; exact Calls.quiet_of_same (HF.out _)))
      have f1 := HKj.out.fr 1
      have HN2 : Hid (Blk ((wr.drewN nq).setCell ⟨g, 1, none⟩ (.int .i64 ((j : Int) + 1))) g [.string S, .int .i64 ((j : Int) + 1)] 138) := hide (Blk.set (w := wr.drewN nq) HKj.out 1 (.int .i64 ((j : Int) + 1)))
      have HG2 := hide ((HG.out.trans (.of (bl_drewN (bl_refl wr) nq))).setCell 1 (.int .i64 ((j : Int) + 1)))
      have q1' := HN2.out.cell (k := 1) rfl
      clear HF hx
      go_wp2
      go_roundw
      case rel => exact ⟨j + 1, by omega, by omega, HN2, HG2⟩
      case measure => rw [q1, q1']; simp [intOf]; omega
    · obtain rfl : j = m := by omega
      have hfin : Hid (∀ hs : (j : Int) < (S.size : Int), ∃ (h2 : j < S.size) (c : UInt8), S[j]'h2 = c ∧ ∀ wx, Calls Tryz.prog 81 #[.int .u8 (c.toNat : Int)] wx fun e w' => e = .returned (.bool false) ∧ w' = wx) := hide (fun hs => by
        have h2 : j < S.size := by omega
        have h3 : j < l.length := by have := HSZ.out; omega
        have hc : l[j]? = some l[j] := List.getElem?_eq_getElem h3
        refine ⟨h2, l[j], str_get HS.out hc h2, fun wx => ?_⟩
        have := HN.out.e _ hc
        exact (this ▸ goesOn_any _ wx).mono fun e w' ⟨h1, h2⟩ => ⟨h1, h2.symm⟩)
      by_cases hs : (j : Int) < (S.size : Int)
      · obtain ⟨h2, c, hx, hcal⟩ := hfin.out hs
        have HF := hide hcal
        clear hcal
        go_wp2_with fail
        go_quiet ((go_at_call 81; exact Calls.quiet_of_same (HF.out _)))
        clear HF hx
        have q0' := HKj.out.cell (k := 0) rfl
        have hjk : (j : Int) - (k : Int) ≤ 32 := by omega
        have hR2 := HR.out
        have hjS : (j : Int) ≤ (S.size : Int) := by have := HSZ.out; omega
        go_wp2_with fail
        go_quiet (fail)
        clear hR2
        go_wp2
        go_ret
        exact ⟨rfl, HG.out.trans (.of (bl_drewN (bl_drewN (bl_refl wr) _) _)), HSC.out _ HKj.out⟩
      · have hsd : decide ((j : Int) < (S.size : Int)) = false := by rw [decide_eq_false_iff_not]; exact hs
        have hsd2 : decide (j < S.size) = false := by rw [decide_eq_false_iff_not]; omega
        go_wp2_with fail
        go_quiet ((go_at_call 81; fail))
        have q0' := HKj.out.cell (k := 0) rfl
        have hjk : (j : Int) - (k : Int) ≤ 32 := by omega
        have hR2 := HR.out
        have hjS : (j : Int) ≤ (S.size : Int) := by have := HSZ.out; omega
        go_wp2_with fail
        go_quiet (fail)
        clear hR2
        go_wp2
        go_ret
        exact ⟨rfl, HG.out.trans (.of (bl_drewN (bl_drewN (bl_refl wr) _) _)), HSC.out _ HKj.out⟩
end Go.Proofs.YtbpkclopcoaikaaGreatDoor
namespace Go.Proofs.YtbpkclopcoaikaaGreatDoor
open Go.RowKit Go.Shelf
set_option linter.unusedVariables false
set_option linter.unusedSimpArgs false
attribute [local go_sem] Oper.semAt_some
def encV (c : UInt8) (_ : Unit) : Array Value := #[.agg #[.int .i32 (c.toNat : Int), .int .i64 0, .int .i64 1]]
theorem below_grow {w w' : World} (hb : Below w.heap.size w w') : w.grownBy w' none := ⟨hb.os, hb.tape, hb.output, hb.size, fun k hk _ => hb.block k hk⟩
theorem dec_one (c : UInt8) (hc : c.toNat < 128) : Utf8.decode (bstr [c]) 0 = (c.toNat, 1) := decode_ascii (bstr [c]) 0 (show 0 < 1 by omega) hc
set_option maxRecDepth 100000 in
set_option maxHeartbeats 2000000 in
theorem unit1_in (n : Nat) (hn : 1 ≤ n) (l Bn n₀ : Nat) (c : UInt8) (hc : c.toNat < 128) (J Jx : List Unit → World → Prop) (W0 : World)
    (hJ : AbidesFrom W0.heap.size J)
    (hY : ∀ pre x W, J pre W → pre.length < 1 → YieldAt Fence.wide (n - 1) Tryz.prog l (encV c x) W fun e W' =>
      (e = .returned (.bool true) ∧ J (pre ++ [x]) W' ∧ Below n₀ W W') ∨ (e = .returned (.bool false) ∧ Jx (pre ++ [x]) W'))
    (hBn : W0.cell? ⟨Bn, 0, none⟩ = some (.string (bstr [c]))) (h0 : J [] W0) :
    CallsIn Fence.wide n Tryz.prog 135 #[.func (.yield l) #[] #[], .pointer (some ⟨Bn, 0, none⟩)] W0 fun e W' => (∃ v, e = .returned v) ∧
      ((∃ ys, ys = [()] ∧ J ys W') ∨ (∃ pre, True ∧ Jx pre W')) := by
  obtain ⟨S, hS⟩ : ∃ S, S = bstr [c] := ⟨_, rfl⟩
  rw [← hS] at hBn
  have hsz : S.size = 1 := by rw [hS]; rfl
  have hdec : Utf8.decode S 0 = (c.toNat, 1) := by rw [hS]; exact dec_one c hc
  have HDEC := hide hdec
  have HSZ := hide hsz
  have HJ := hide hJ
  have HY := hide hY
  have H0 := hide h0
  obtain ⟨g, hg⟩ : ∃ g, g = W0.heap.size := ⟨_, rfl⟩
  have HG := hide hg
  have hlt := lt_heap hBn
  have HLT := hide hlt
  clear hS hJ hY h0 hdec hsz hlt
  refine callsIn_of_wp Tryz.func135 rfl trivial ?_ rfl
  simp only [Tryz.ntmps135, List.size_toArray, List.length_cons, List.length_nil, Nat.reduceAdd, Nat.reduceSub, Array.replicate_succ, Array.replicate_zero, List.push_toArray, List.append_toArray, List.nil_append, List.cons_append]
  have c1 := ((bl_alloc (bl_refl W0) (.cells #[.int .i32 0, .int .i64 (-1), .int .i64 0] 166 (0, 0))).cell (lt_heap hBn)).trans hBn
  have hB1 := bl_alloc (bl_refl W0) (.cells #[.int .i32 0, .int .i64 (-1), .int .i64 0] 166 (0, 0))
  have hk1 : Blk (W0.alloc (.cells #[.int .i32 0, .int .i64 (-1), .int .i64 0] 166 (0, 0))) g [.int .i32 0, .int .i64 (-1), .int .i64 0] 166 := Blk.newG hg _ _
  have hz1 : (W0.alloc (.cells #[.int .i32 0, .int .i64 (-1), .int .i64 0] 166 (0, 0))).heap.size = g + 1 := by rw [World.size_alloc, hg]
  have hi1 : ((W0.alloc (.cells #[.int .i32 0, .int .i64 (-1), .int .i64 0] 166 (0, 0))).iter S 0).heap[g + 1]? = some (.stringIter S 0) := by rw [← hz1]; exact World.iter_heap _ S 0
  have hB2 : Below W0.heap.size W0 ((W0.alloc (.cells #[.int .i32 0, .int .i64 (-1), .int .i64 0] 166 (0, 0))).iter S 0) := bl_alloc hB1 _
  have hk2 : Blk ((W0.alloc (.cells #[.int .i32 0, .int .i64 (-1), .int .i64 0] 166 (0, 0))).iter S 0) g [.int .i32 0, .int .i64 (-1), .int .i64 0] 166 := hk1.below (bl_alloc (bl_refl _) _)
  have HI2 := hide hi1
  have HB2 := hide hB2
  have HK2 := hide hk2
  clear hB1 hk1 hi1 hB2 hk2 hz1 hg
  gi_wp2
  rw [← HG.out]
  have HB2c : Hid (((W0.alloc (.cells #[.int .i32 0, .int .i64 (-1), .int .i64 0] 166 (0, 0))).iter S 0).cell? ⟨Bn, 0, none⟩ = some (.string S)) := hide ((HB2.out.cell (lt_heap hBn)).trans hBn)
  generalize (W0.alloc (.cells #[.int .i32 0, .int .i64 (-1), .int .i64 0] 166 (0, 0))).iter S 0 = W2 at *
  clear c1
  gi_loopw [] (fun wr => ∃ (k : Nat) (r a : Int), Hid (k = 0 ∧ r = 0 ∧ a = -1 ∨ k = 1 ∧ r = (c.toNat : Int) ∧ a = 0) ∧ Hid (Blk wr g [.int .i32 r, .int .i64 a, .int .i64 0] 166) ∧ Hid (wr.heap[g + 1]? = some (.stringIter S k)) ∧ Hid (Below W0.heap.size W0 wr))
    (fun wr => 1 - wr.iterPos (g + 1))
  case atStart => exact ⟨0, 0, -1, hide (.inl ⟨rfl, rfl, rfl⟩), HK2, HI2, HB2⟩
  case round =>
    obtain ⟨k, r, a, HC, HKr, HIr, HBr⟩ := hrel
    rcases HC.out with ⟨rfl, rfl, rfl⟩ | ⟨rfl, rfl, rfl⟩
    · have hnx : ∀ ty, (Instr.next (.pointer (some ⟨g + 1, 0, none⟩)) true ty).run Tryz.prog wr = _ := fun ty => Lib.run_next_any_at wr (g + 1) S 0 ty HIr.out (by rw [HSZ.out]; omega)
      rw [HDEC.out] at hnx
      simp only [Nat.zero_add] at hnx
      have HI3 := hide (Lib.iterAt_heap wr (g + 1) S 0 1 HIr.out)
      have HB3 := hide (Lib.below_iterAt HBr.out (show W0.heap.size ≤ g + 1 by have := HG.out; omega) S 1)
      have HM := hide (show (wr.iterPos (g + 1)) = 0 by simp [World.iterPos, HIr.out])
      have HK3 : Hid (Blk (wr.iterAt (g + 1) S 1) g [.int .i32 0, .int .i64 (-1), .int .i64 0] 166) := hide (Blk.kept HKr.out ((Lib.below_iterAt (bl_refl wr |>.mono (show g + 1 ≤ wr.heap.size by have := (Array.getElem?_eq_some_iff.1 HIr.out).1; omega)) (Nat.le_refl _) S 1).block g (by omega)))
      obtain ⟨w3, hw3⟩ : ∃ w3, w3 = wr.iterAt (g + 1) S 1 := ⟨_, rfl⟩
      rw [← hw3] at HI3 HB3 HK3 hnx
      clear hw3
      have k0 := HK3.out.cell (k := 0) rfl
      have k1 := HK3.out.cell (k := 1) rfl
      have k2 := HK3.out.cell (k := 2) rfl
      have hfr := fun j => HK3.out.fr j
      gi_wp2
      all_goals
        refine ⟨fun _ h => (by cases h), ?_⟩
        gi_wp2
      have hwb : Below W0.heap.size W0 ((((w3.setCell ⟨g, 2, none⟩ (.int .i64 1)).setCell ⟨g, 0, none⟩ (.int .i32 (c.toNat : Int))).setCell ⟨g, 1, none⟩ (.int .i64 0)).setCell ⟨g, 2, none⟩ (.int .i64 0)) := bl_set (bl_set (bl_set (bl_set HB3.out (p := ⟨g, 2, none⟩) (by have := HG.out; simp only; omega) _) (p := ⟨g, 0, none⟩) (by have := HG.out; simp only; omega) _) (p := ⟨g, 1, none⟩) (by have := HG.out; simp only; omega) _) (p := ⟨g, 2, none⟩) (by have := HG.out; simp only; omega) _
      have hit : ((((w3.setCell ⟨g, 2, none⟩ (.int .i64 1)).setCell ⟨g, 0, none⟩ (.int .i32 (c.toNat : Int))).setCell ⟨g, 1, none⟩ (.int .i64 0)).setCell ⟨g, 2, none⟩ (.int .i64 0)).heap[g + 1]? = some (.stringIter S 1) :=
        (heap_setCell_other _ ⟨g, 2, none⟩ (g + 1) _ (by simp)).trans ((heap_setCell_other _ ⟨g, 1, none⟩ (g + 1) _ (by simp)).trans ((heap_setCell_other _ ⟨g, 0, none⟩ (g + 1) _ (by simp)).trans ((heap_setCell_other _ ⟨g, 2, none⟩ (g + 1) _ (by simp)).trans HI3.out)))
      refine ⟨⟨1, (c.toNat : Int), 0, hide (.inr ⟨rfl, rfl, rfl⟩), hide (Blk.set (Blk.set (Blk.set (Blk.set HK3.out 2 _) 0 _) 1 _) 2 _), hide hit, hide hwb⟩, ?_⟩
      rw [HM.out]
      unfold World.iterPos
      rw [hit]
      show 1 - 1 < 1 - 0
      omega
    · have hnx : ∀ ty, (Instr.next (.pointer (some ⟨g + 1, 0, none⟩)) true ty).run Tryz.prog wr = _ := fun ty => Lib.run_next_end_at wr (g + 1) S 1 ty HIr.out (by rw [HSZ.out]; omega)
      have k0 := HKr.out.cell (k := 0) rfl
      have k1 := HKr.out.cell (k := 1) rfl
      have k2 := HKr.out.cell (k := 2) rfl
      have kB := (HBr.out.cell (lt_heap hBn)).trans hBn
      have hfr := HKr.out.fr 2
      have hB4 : Below W0.heap.size W0 (wr.setCell ⟨g, 2, none⟩ (.int .i64 1)) := bl_set HBr.out (p := ⟨g, 2, none⟩) (by have := HG.out; simp only; omega) _
      have hK4 : Blk (wr.setCell ⟨g, 2, none⟩ (.int .i64 1)) g [.int .i32 (c.toNat : Int), .int .i64 0, .int .i64 1] 166 := Blk.set HKr.out 2 _
      have m0 := hK4.cell (k := 0) rfl
      have m1 := hK4.cell (k := 1) rfl
      have m2 := hK4.cell (k := 2) rfl
      have hj4 : J [] (wr.setCell ⟨g, 2, none⟩ (.int .i64 1)) := HJ.out _ _ _ none H0.out (below_grow hB4) (fun r e => by cases e)
      obtain ⟨fn, tmps, assign, body, hy, hR⟩ := HY.out [] () _ hj4 (by simp)
      unfold encV at hy
      have hsz := HSZ.out
      have HR := hide hR
      clear hB4 hK4 hj4 hR
      gi_wp2
      refine HR.out.mono ?_
      rintro e W3 (⟨rfl, hJ3, hk3⟩ | ⟨rfl, hJx3⟩)
      · gi_wp2
        go_end0
        exact ⟨⟨_, rfl⟩, .inl ⟨_, rfl, hJ3⟩⟩
      · gi_wp2
        go_end0
        exact ⟨⟨_, rfl⟩, .inr ⟨_, trivial, hJx3⟩⟩
theorem unit1_stops (n : Nat) (hn : 1 ≤ n) (Bn n₀ : Nat) (c : UInt8) (hc : c.toNat < 128) (w : World) (hBn : w.cell? ⟨Bn, 0, none⟩ = some (.string (bstr [c]))) :
    SeqStopsK Fence.wide n Tryz.prog 135 #[.pointer (some ⟨Bn, 0, none⟩)] (encV c) (Below n₀) (fun ys => ys = [()]) (fun _ => True) 1 w := fun l J Jx W hW hJ _ hY h0 =>
  unit1_in n hn l Bn n₀ c hc J Jx W hJ hY ((hW.cell (p := ⟨Bn, 0, none⟩) (lt_heap hBn)).trans hBn) h0
set_option maxRecDepth 100000 in
theorem unitsM_any (S : ByteArray) (w : World) :
    Calls Tryz.prog 129 #[.string S] w fun e w' => e = .returned (.func (.func 135) #[] #[.pointer (some ⟨w.heap.size, 0, none⟩)]) ∧ w' = w.alloc (.cells #[.string S] 9) := by
  go_enter Tryz.func129, Tryz.ntmps129
  go_wp2
  go_ret
  exact ⟨rfl, rfl⟩
set_option maxRecDepth 100000 in
theorem uvalid_any (c : UInt8) (hc : c.toNat < 128) (w : World) :
    Calls Tryz.prog 130 #[.agg #[.int .i32 (c.toNat : Int), .int .i64 0, .int .i64 1]] w fun e w' => e = .returned (.bool true) ∧ Below w.heap.size w w' := by
  have hb := hide (bl_alloc (bl_refl w) (.cells #[.int .i32 (c.toNat : Int), .int .i64 0, .int .i64 1] 166 (0, 0)))
  have h1 : ((c.toNat : Int) != 65533) = true := by rw [bne_iff_ne]; omega
  go_enter Tryz.func130, Tryz.ntmps130
  go_wp2
  go_ret
  exact ⟨rfl, hb.out⟩
set_option maxHeartbeats 2000000 in
set_option maxRecDepth 100000 in
theorem valid1_any (c : UInt8) (hc : c.toNat < 128) (w : World) :
    Calls Tryz.prog 120 #[.string (bstr [c])] w fun e w' => e = .returned (.bool true) ∧ Below w.heap.size w w' := by
  obtain ⟨S, hS⟩ : ∃ S, S = bstr [c] := ⟨_, rfl⟩
  rw [← hS]
  have HS := hide hS
  clear hS
  refine (callsIn_wide (n := 5)).1 ?_
  refine callsIn_of_wp_marks Tryz.func120 rfl trivial ?_ rfl
  simp only [Tryz.ntmps120, List.size_toArray, List.length_cons, List.length_nil, Nat.reduceAdd, Nat.reduceSub, Array.replicate_succ, Array.replicate_zero, List.push_toArray, List.append_toArray, List.nil_append, List.cons_append]
  refine wpIn_wide.2 ?_
  go_wp2_with fail
  refine (unitsM_any S _).mono ?_
  rintro e w' ⟨rfl, rfl⟩
  go_wp2_with fail
  have bA := (Boxed.new w 4 (.bool false)).alloc (.cells #[.string S] 9)
  have bN := Boxed.new (w.alloc (.cells #[.bool false] 4)) 9 (.string S)
  simp only [World.size_alloc] at bA bN
  have hB0 : Below w.heap.size w ((w.alloc (.cells #[.bool false] 4)).alloc (.cells #[.string S] 9)) := bl_alloc (bl_alloc (bl_refl w) _) _
  have hsz : ((w.alloc (.cells #[.bool false] 4)).alloc (.cells #[.string S] 9)).heap.size = w.heap.size + 2 := by simp
  obtain ⟨W0, hW0⟩ : ∃ W0, (w.alloc (.cells #[.bool false] 4)).alloc (.cells #[.string S] 9) = W0 := ⟨_, rfl⟩
  rw [hW0] at bA bN hB0 hsz ⊢
  clear hW0
  refine (wpIn_wide (n := 5)).1 ?_
  refine wpIn_rangeFunc_ownH rfl (by omega) (gf := 135) (lb := #[.pointer (some ⟨w.heap.size + 1, 0, none⟩)]) rfl trivial (enters_of Tryz.func135 (by kernel_rfl) rfl)
    (unit1_stops (5 - 1) (by omega) (w.heap.size + 1) w.heap.size c hc W0 (by rw [← HS.out]; exact bN.cell)) (belowK_t) (belowK_b (by omega)) (Below.refl _ _) (fun _ => rfl)
    (fun pre W => Boxed W w.heap.size 4 (.bool false) ∧ Below w.heap.size w W)
    (fun _ _ _ => False)
    (OwnFrom.and (Own.from (boxed_own w.heap.size 4 (fun pre : List Unit => Value.bool false)) _) (ownFrom_below (Nat.le_refl _) (by omega)))
    (fun _ _ _ _ _ hs _ _ => hs)
    ⟨bA, hB0⟩
    (fun x a' W => ∃ Bx, w.heap.size < Bx + 1 ∧ W.heap[Bx]? = some (.cells #[.int .i32 (c.toNat : Int), .int .i64 0, .int .i64 1] 166 (0, 0)) ∧ a' = { tmps := #[.string S, undef, .pointer (some ⟨w.heap.size, 0, none⟩), .pointer (some ⟨Bx, 0, none⟩), .string S, .func (.func 135) #[] #[.pointer (some ⟨w.heap.size + 1, 0, none⟩)], .agg #[.int .i32 (c.toNat : Int), .int .i64 0, .int .i64 1], undef, undef, undef], defers := [] })
    (fun x a' _ X Y row hs hg hr => by
      obtain ⟨Bx, h1, h2, h3⟩ := hs
      refine ⟨Bx, h1, (hg.block Bx (Array.getElem?_eq_some_iff.1 h2).1 (fun e => ?_)).trans h2, h3⟩
      obtain ⟨_, o, ho, hc⟩ := hr Bx e.symm
      rw [h2] at ho; cases ho; cases hc)
    ?assign ?body ?done ?stop
  case assign =>
    rintro l pre x W K ⟨hv, hB1⟩ hK
    unfold encV at *
    gi_wp2
    exact hK _ _ ((KeepsOthers.alloc _ _).from _) ((Below.refl _ W).alloc hB1.size _) ⟨hv.alloc _, hB1.alloc hB1.size _⟩ ⟨W.heap.size, by have := hv.lt; omega, World.alloc_heap_new W _, rfl⟩
  case body =>
    rintro l pre x a' W hl ⟨r, hr⟩ ⟨hv, hB1⟩ ⟨Bx, hBx, hcx, rfl⟩ hlt
    have cx0 : W.cell? ⟨Bx, 0, none⟩ = some (.int .i32 (c.toNat : Int)) := cell_of_row W _ 0 _ _ _ hcx
    have cx1 : W.cell? ⟨Bx, 1, none⟩ = some (.int .i64 0) := cell_of_row W _ 1 _ _ _ hcx
    have cx2 : W.cell? ⟨Bx, 2, none⟩ = some (.int .i64 1) := cell_of_row W _ 2 _ _ _ hcx
    gi_wp2
    refine ⟨trivial, ?_⟩
    refine (CallsIn.inRound l (callsIn_wide.2 (uvalid_any c hc _))).mono ?_
    rintro e w3 ⟨rfl, hb3⟩
    gi_wp2
    exact ⟨(KeepsOthers.of_grownBy (below_grow hb3) (fun j o e => by cases e)).from _, hb3.mono hB1.size, hv.kept (below_grow hb3) (by simp), hB1.trans (hb3.mono hB1.size)⟩
  case done =>
    rintro D ys W hD rfl ⟨hv, hB1⟩ hK
    have hcO := hv.cell
    have hfO := hv.frozen
    have hv2 := hv.set (.bool true)
    have hK2 : (W.setCell ⟨w.heap.size, 0, none⟩ (.bool true)).heap[D]? = some (.deferred (some [])) := (KeepsOthers.setCell W ⟨w.heap.size, 0, none⟩ (.bool true)).same D _ hK rfl
    have hB2 := bl_set hB1 (p := ⟨w.heap.size, 0, none⟩) (Nat.le_refl _) (.bool true)
    have hc2 := hv2.cell
    go_wp2
    refine ⟨by simp, .inl ⟨_, _, rfl, run_takeDeferred hK2, ?_⟩⟩
    have hv3 := hv2.kept (grownBy_putObj' _ D (.deferred none)) (fun e => by injection e with e; omega)
    have hc3 := hv3.cell
    exact ⟨.bool true, by simp [results, Tryz.results120, go_sem, hc3], rfl, hB2.trans (belowK_b (w := w) (Nat.le_refl _) _ D _ _ (by omega) hK2 rfl rfl)⟩
  case stop =>
    rintro D c pre W _ _ h _
    exact h.elim
end Go.Proofs.YtbpkclopcoaikaaGreatDoor
namespace Go.Proofs.YtbpkclopcoaikaaGreatDoor
open Go.RowKit
set_option linter.unusedVariables false
set_option linter.unusedSimpArgs false
/-- A byte that stands for itself in a value. -/
structure PlainB (c : UInt8) : Prop where
  lo : 32 ≤ c.toNat
  hi : c.toNat < 127
  amp : c.toNat ≠ 38
  quo : c.toNat ≠ 34
  lt : c.toNat ≠ 60
  gt : c.toNat ≠ 62
theorem info_u8' : (Tryz.prog.info? 5).map (fun i => (i.zero, i.size, i.bytes)) = some (some (.int .u8 0), 1, 1) := by kernel_rfl
set_option maxHeartbeats 4000000 in
set_option maxRecDepth 100000 in
theorem mvalue_any (c : UInt8) (hc : PlainB c) (w : World) :
    Calls Tryz.prog 101 #[.string (bstr [c])] w fun e w' => e = .returned (.int .i64 0) ∧ Below w.heap.size w w' := by
  have h1 := hc.lo
  have h2 := hc.hi
  have HV := hide (fun w => valid1_any c (by omega) w)
  have hdec := dec_one c (by omega)
  obtain ⟨S, hS⟩ : ∃ S, S = bstr [c] := ⟨_, rfl⟩
  rw [← hS] at HV hdec ⊢
  have hsz : (S.size : Int) = 1 := by rw [hS]; rfl
  have HSZ : Hid (S.size = 1) := hide (by rw [hS]; rfl)
  have HDEC := hide hdec
  clear hS hc hdec
  go_enter Tryz.func101, Tryz.ntmps101
  go_wp2_with fail
  refine (HV.out _).mono ?_
  rintro e w1 ⟨rfl, hb1⟩
  have HB1 := hide hb1
  have HB2 : Hid (Below w.heap.size w (w1.iter S 0)) := hide (bl_alloc hb1 _)
  have HI2 : Hid ((w1.iter S 0).heap[w1.heap.size]? = some (.stringIter S 0)) := hide (World.iter_heap _ S 0)
  clear hb1 hsz
  go_wp2_with fail
  generalize w1.iter S 0 = w2 at *
  obtain ⟨g, hg⟩ : ∃ g, g = w1.heap.size := ⟨_, rfl⟩
  rw [← hg] at HI2 ⊢
  have HG : Hid (w.heap.size ≤ g) := hide (by rw [hg]; exact HB1.out.size)
  clear hg
  go_loopw [] (fun wr => ∃ k : Nat, Hid (k = 0 ∨ k = 1) ∧ Hid (wr.heap[g]? = some (.stringIter S k)) ∧ Hid (Below w.heap.size w wr)) (fun wr => 1 - wr.iterPos g)
  case atStart => exact ⟨0, hide (.inl rfl), HI2, HB2⟩
  case round =>
    obtain ⟨k, HC, HIr, HBr⟩ := hrel
    rcases HC.out with rfl | rfl
    · have hnx : ∀ ty, (Instr.next (.pointer (some ⟨g, 0, none⟩)) true ty).run Tryz.prog wr = _ := fun ty => Lib.run_next_any_at wr g S 0 ty HIr.out (by rw [HSZ.out]; omega)
      rw [HDEC.out] at hnx
      simp only [Nat.zero_add] at hnx
      have HI3 := hide (Lib.iterAt_heap wr g S 0 1 HIr.out)
      have HB3 := hide (Lib.below_iterAt HBr.out HG.out S 1)
      have HM := hide (show (wr.iterPos g) = 0 by simp [World.iterPos, HIr.out])
      obtain ⟨w3, hw3⟩ : ∃ w3, w3 = wr.iterAt g S 1 := ⟨_, rfl⟩
      rw [← hw3] at HI3 HB3 hnx
      clear hw3
      have d1 : decide ((c.toNat : Int) ≤ 31) = false := by rw [decide_eq_false_iff_not]; omega
      have d2 : ((c.toNat : Int) == 127) = false := by rw [beq_eq_false_iff_ne]; omega
      go_wp2
      refine ⟨⟨1, hide (.inr rfl), HI3, HB3⟩, ?_⟩
      rw [HM.out]
      unfold World.iterPos
      rw [HI3.out]
      show 1 - 1 < 1 - 0
      omega
    · have hnx : ∀ ty, (Instr.next (.pointer (some ⟨g, 0, none⟩)) true ty).run Tryz.prog wr = _ := fun ty => Lib.run_next_end_at wr g S 1 ty HIr.out (by rw [HSZ.out]; omega)
      go_wp2
      go_ret
      exact ⟨rfl, HBr.out⟩
def UnescP (c : UInt8) (w : World) (e : Ending) (w' : World) : Prop := e = .returned (.tuple #[.string (bstr [c]), .int .i64 0, .int .i64 0]) ∧ Below w.heap.size w w'
set_option maxHeartbeats 4000000 in
set_option maxRecDepth 100000 in
theorem unesc_any (c : UInt8) (hc : PlainB c) (w : World) :
    Calls Tryz.prog 93 #[.string (bstr [c])] w (UnescP c w) := by
  obtain ⟨i2, hi2, hz0, hz1, hz2⟩ := info_parts info_u8'
  have h3 := hc.amp
  obtain ⟨S, hS⟩ : ∃ S, S = bstr [c] := ⟨_, rfl⟩
  rw [← hS]
  have HS := hide hS
  have HSZ : Hid ((S.size : Int) = 1) := hide (by rw [hS]; rfl)
  have hks : 0 < S.size := by rw [hS]; show 0 < 1; omega
  have hx : S[0]'hks = c := by subst hS; rfl
  have HX := hide hx
  have d1 : ((c.toNat : Int) != 38) = true := by rw [bne_iff_ne]; omega
  clear hS hc hx
  go_enter Tryz.func93, Tryz.ntmps93
  go_wp2_with fail
  go_loopw [5, 6] (fun ov kv wr => Hid (kv = .int .i64 0 ∧ ov = .slice none 0 0 ∧ wr = w ∨ kv = .int .i64 1 ∧ ∃ a cp, ov = .slice a 1 cp ∧ BRd wr a [c] ∧ Below w.heap.size w wr)) (fun _ kv _ => 1 - (intOf kv).toNat)
  case atStart => exact hide (.inl ⟨rfl, rfl, rfl⟩)
  case round =>
    rcases hrel.out with ⟨rfl, rfl, rfl⟩ | ⟨rfl, a, cp, rfl, hrd, hb⟩
    · have hsz := HSZ.out
      have hx0 := HX.out
      have HRL := hide (rd_lit wr #[.int .u8 (c.toNat : Int)] 5 (0, 0))
      have HA := hide (bl_alloc (bl_refl wr) (.cells #[.int .u8 (c.toNat : Int)] 5 (0, 0)))
      go_wp2_with (at_builtin; go_loud (refine wpList_append_rd _ rfl (.tmp 17) (.tmp 21) 80 rfl wr.heap.size 5 i2 _ 1 1 Tryz.underlying80 hi2 hz0 hz1 hz2 rfl (by decide) (.slice none 0 0) 0 [] rfl (World.ownsRow_nil _ _ _ _) (some ⟨wr.heap.size, 0, none⟩) 1 1 [.int .u8 (c.toNat : Int)] rfl rfl HRL.out (by intro u hu; simp at hu; subst hu; rfl) (by simp only [maxLen]; omega) (by omega) (by simp) ?_; intro v2 w2 hown hg1 hat1; obtain ⟨e1, a2, c2, rfl, hcc, hrd2, e2, e3⟩ := own_form hown; clear e1 e2 e3 hcc; have HB2 := hide (bl_grown HA.out hg1 (fun k hk => by cases hk)); have HRD2 := hide hrd2; clear hown hg1 hat1 hrd2))
      go_roundw
      case rel => exact hide (.inr ⟨rfl, a2, c2, rfl, HRD2.out, HB2.out⟩)
      case measure => simp [intOf]
    · have hsz := HSZ.out
      have HB := hide hb
      have k1 := run_bytes_str (P := Tryz.prog) wr 80 9 5 a 1 cp [c] Tryz.underlying80 Tryz.underlying5 Tryz.underlying9 rfl hrd
      clear hrd hb
      go_wp2
      go_ret3
      exact ⟨rfl, HB.out⟩
/-- No pairs. -/
theorem has0_any (S : ByteArray) (w : World) : Calls Tryz.prog 127 #[.slice none 0 0, .string S] w fun e w' => e = .returned (.bool false) ∧ w = w' := by
  go_enter Tryz.func127, Tryz.ntmps127
  go_wp2_with fail
  go_loop [9] (fun k => k = .int .i64 0) (fun _ => 0)
  case atStart => rfl
  case round =>
    subst hrel
    go_wp2
    go_ret
    exact ⟨rfl, rfl⟩
theorem sorted0_any (w : World) : Calls Tryz.prog 119 #[.slice none 0 0] w fun e w' => e = .returned (.slice none 0 0) ∧ w = w' := by
  go_enter Tryz.func119, Tryz.ntmps119
  go_wp2_with fail
  go_loop [3, 9] (fun o k => o = .slice none 0 0 ∧ k = .int .i64 0) (fun _ _ => 0)
  case atStart => exact ⟨rfl, rfl⟩
  case round =>
    obtain ⟨rfl, rfl⟩ := hrel
    go_wp2
    go_ret
    exact ⟨rfl, rfl⟩
end Go.Proofs.YtbpkclopcoaikaaGreatDoor
namespace Go.Proofs.YtbpkclopcoaikaaGreatDoor
open Go.RowKit
set_option linter.unusedVariables false
set_option linter.unusedSimpArgs false
theorem eat_n (g : Nat) (l : List UInt8) (k : Nat) (c : UInt8) (n : Int) (hn : n = (c.toNat : Int)) (w : World) (h : ScI w g l k) (hl : l.length ≤ 1000) (hc : l[k]? = some c) : Calls Tryz.prog 115 #[.pointer (some ⟨g, 0, none⟩), .int .u8 n] w fun e w' => e = .returned (.tuple #[]) ∧ KG g w w' ∧ ScI w' g l (k + 1) := by
  subst hn; exact eat_any g l k c w h hl hc
theorem sees_n (g : Nat) (l : List UInt8) (k : Nat) (c : UInt8) (n : Int) (b : Bool) (hn : n = (c.toNat : Int)) (hb : seesB l k c = b) (w : World) (h : ScI w g l k) (hl : l.length ≤ 1000) : Calls Tryz.prog 116 #[.pointer (some ⟨g, 0, none⟩), .int .u8 n] w fun e w' => e = .returned (.bool b) ∧ Below w.heap.size w w' := by
  subst hn hb; exact sees_any g l k c w h hl
def ValuP (g : Nat) (l : List UInt8) (m : Nat) (c : UInt8) (w : World) (e : Ending) (w' : World) : Prop := e = .returned (.string (bstr [c])) ∧ KG g w w' ∧ ScI w' g l m
set_option maxHeartbeats 8000000 in
set_option maxRecDepth 100000 in
theorem svalue_any (g : Nat) (l : List UInt8) (k q m : Nat) (c : UInt8) (w : World) (h : ScI w g l k) (hl : l.length ≤ 1000) (hc : PlainB c) (h1 : l[k]? = some c) (h2 : l[q]? = some 34) (hq : q = k + 1) (hm : m = q + 1) : Calls Tryz.prog 128 #[.pointer (some ⟨g, 0, none⟩)] w (ValuP g l m c w) := by
  obtain ⟨S, hS⟩ := (⟨_, rfl⟩ : ∃ S, S = bstr l)
  have hql : q < l.length := (List.getElem?_eq_some_iff.1 h2).1
  have HK : Hid (Blk w g [.string S, .int .i64 (k : Int)] 138) := hide (by rw [hS]; exact h)
  have HS := hide hS
  have HSZ := hide (str_size hS)
  have HQ := hide hq
  have HM := hide hm
  have hkq : k < q := by omega
  have hql2 : q < 1000 := by omega
  obtain ⟨R, hR⟩ : ∃ R, R = bstr [c] := ⟨_, rfl⟩
  have HR : Hid (S.extract k q = R) := hide (by
    rw [hR, str_sub hS k q]
    congr 1
    rw [hq, List.take_add_one, h1, List.drop_append_of_le_length (by simp; omega), List.drop_eq_nil_of_le (by simp; omega)]
    rfl)
  have HSC : Hid (∀ wx, ScI wx g l m → Blk wx g [.string S, .int .i64 (m : Int)] 138) := hide (fun wx hx => by rw [hS]; exact hx)
  have HSD : Hid (∀ wx, Blk wx g [.string S, .int .i64 (q : Int)] 138 → ScI wx g l q) := hide (fun wx hx => by unfold ScI; rw [← hS]; exact hx)
  have hkS : k < S.size := by have := HSZ.out; omega
  have hqS : q < S.size := by have := HSZ.out; omega
  have HX1 : Hid (S[k]'hkS = c) := hide (str_get hS h1 hkS)
  have HX2 : Hid (S[q]'hqS = 34) := hide (str_get hS h2 hqS)
  have HU : Hid (∀ wx, Calls Tryz.prog 93 #[.string R] wx fun e w' => e = .returned (.tuple #[.string R, .int .i64 0, .int .i64 0]) ∧ Below wx.heap.size wx w') := hide (fun wx => by rw [hR]; exact unesc_any c hc wx)
  have HV : Hid (∀ wx, Calls Tryz.prog 101 #[.string R] wx fun e w' => e = .returned (.int .i64 0) ∧ Below wx.heap.size wx w') := hide (fun wx => by rw [hR]; exact mvalue_any c hc wx)
  have HEAT : Hid (∀ wx, ScI wx g l q → Calls Tryz.prog 115 #[.pointer (some ⟨g, 0, none⟩), .int .u8 34] wx fun e w' => e = .returned (.tuple #[]) ∧ KG g wx w' ∧ ScI w' g l m) := hide (fun wx hx => by rw [hm]; exact eat_n g l q 34 34 (by decide) wx hx hl h2)
  have HRR := hide hR
  have HP := hide hc
  clear h hS h1 h2 hc hR hq hm hql hl
  go_enter Tryz.func128, Tryz.ntmps128
  have q1 := HK.out.cell (k := 1) rfl
  go_wp2_with fail
  clear q1
  go_loopw [] (fun wr => ∃ j : Nat, Hid (j = k ∨ j = q) ∧ Hid (Blk wr g [.string S, .int .i64 (j : Int)] 138) ∧ Hid (KG g w wr)) (fun wr => q - (intOf ((wr.cell? ⟨g, 1, none⟩).getD undef)).toNat)
  case atStart => exact ⟨k, hide (.inl rfl), HK, hide (KG.refl g w)⟩
  case round =>
    obtain ⟨j, HJ, HKj, HG⟩ := hrel
    have q0 := HKj.out.cell (k := 0) rfl
    have q1 := HKj.out.cell (k := 1) rfl
    rcases HJ.out with rfl | rfl
    · have hx := HX1.out
      have hjS : (j : Int) < (S.size : Int) := by omega
      have e1 : ((c.toNat : Int) != 34) = true := by rw [bne_iff_ne]; have := HP.out.quo; omega
      have e2 : ((c.toNat : Int) != 60) = true := by rw [bne_iff_ne]; have := HP.out.lt; omega
      have e3 : ((c.toNat : Int) != 62) = true := by rw [bne_iff_ne]; have := HP.out.gt; omega
      go_wp2_with fail
      go_quiet (fail)
      have f1 := HKj.out.fr 1
      have HN2 : Hid (Blk ((wr.drewN nq).setCell ⟨g, 1, none⟩ (.int .i64 ((j : Int) + 1))) g [.string S, .int .i64 ((j : Int) + 1)] 138) := hide (Blk.set (w := wr.drewN nq) HKj.out 1 (.int .i64 ((j : Int) + 1)))
      have HG2 := hide ((HG.out.trans (.of (bl_drewN (bl_refl wr) nq))).setCell 1 (.int .i64 ((j : Int) + 1)))
      have q1' := HN2.out.cell (k := 1) rfl
      have hjj : (j : Int) < 1000 := by omega
      clear hx
      go_wp2
      go_roundw
      case rel => exact ⟨q, hide (.inr rfl), by rw [show (q : Int) = (j : Int) + 1 by rw [HQ.out]; omega]; exact HN2, HG2⟩
      case measure => rw [q1, q1']; simp [intOf]; have := HQ.out; omega
    · have hx := HX2.out
      have hjS : (j : Int) < (S.size : Int) := by omega
      go_wp2_with fail
      go_quiet (fail)
      clear hx q0 q1
      go_wp2_with fail
      refine (HEAT.out (wr.drewN nq) (HSD.out (wr.drewN nq) HKj.out)).mono ?_
      rintro e w2 ⟨rfl, hkg, hsc⟩
      have HK2 := hide (HSC.out _ hsc)
      have HG2 := hide ((HG.out.trans (.of (bl_drewN (bl_refl wr) nq))).trans hkg)
      clear hkg hsc
      have hw : IntKind.i64.wrap ((m : Int) - 1) = (j : Int) := by rw [show (m : Int) - 1 = (j : Int) by rw [HM.out]; omega]; exact wrap_ok (by omega) (by omega)
      have hkj : (k : Int) ≤ (j : Int) := by omega
      have hjs : (j : Int) ≤ (S.size : Int) := by omega
      have hk0 : (0 : Int) ≤ (k : Int) := by omega
      have hj0 : (0 : Int) ≤ (j : Int) := by omega
      go_wp2_with fail
      refine wp_region_K 18 (by kernel_rfl) (by kernel_rfl) (fun Q HQ => ?_)
      simp only [List.take_succ_cons, List.take_zero, List.map_cons, List.map_nil]
      have hR2 := HR.out
      repeat
        first
        | (refine wpS_skip (b := true) rfl (guard_mk rfl rfl) ?_)
        | (refine wpS_skip (b := false) rfl (guard_mk rfl rfl) ?_)
        | (refine wpS_skipU rfl (guardU_mk rfl rfl) ?_)
        | (first | apply wpS_c rfl | apply wpS_gc rfl (guard_mk rfl rfl)
           focus
             intro ev wx hC hx
             (try simp [Op.operands, Call.operands, opndS, Slot.holds] at hx)
             have q0 := hC.cell (HK2.out.cell (k := 0) rfl)
             have q1 := hC.cell (HK2.out.cell (k := 1) rfl)
             go_simp
             try (first | exact rfl | exact ⟨Below.refl _ _, rfl⟩ | ((refine (HU.out wx).mono ?_; rintro e w' ⟨rfl, hb⟩; exact ⟨rfl, hb⟩)))
             done)
        dsimp only [setS, List.set]
      refine wpS_nil (HQ _ fun w5 hC5 => ?_)
      simp only [closeS, List.drop_succ_cons, List.drop_zero, List.drop_nil]
      have HK5 := hide (HK2.out.below hC5.below)
      have HG5 := hide (HG2.out.trans (.of hC5.below))
      clear hR2 hw HQ hC5
      go_wp2_with fail
      refine (HV.out _).mono ?_
      rintro e w6 ⟨rfl, hb6⟩
      have HK6 := hide (HK5.out.below hb6)
      have HG6 := hide (HG5.out.trans (.of hb6))
      clear hb6
      go_wp2
      go_ret
      exact ⟨by rw [HRR.out]; rfl, HG6.out, by unfold ScI; rw [← HS.out]; exact HK6.out⟩
def KeyP (g : Nat) (l : List UInt8) (k m e1 : Nat) (c : UInt8) (w : World) (e : Ending) (w' : World) : Prop := e = .returned (.agg #[.string (bstr ((l.take m).drop k)), .string (bstr [c])]) ∧ KG g w w' ∧ ScI w' g l e1
set_option maxHeartbeats 8000000 in
set_option maxRecDepth 100000 in
theorem skey_any (g : Nat) (l : List UInt8) (k m v q e1 : Nat) (c : UInt8) (w : World) (h : ScI w g l k) (hl : l.length ≤ 1000) (hn : NmAt l k m) (h1 : l[m]? = some 61) (h2 : l[m + 1]? = some 34) (hv : v = m + 1 + 1) (hc : PlainB c) (h3 : l[v]? = some c) (h4 : l[q]? = some 34) (hq : q = v + 1) (he : e1 = q + 1) : Calls Tryz.prog 118 #[.pointer (some ⟨g, 0, none⟩), .slice none 0 0] w (KeyP g l k m e1 c w) := by
  obtain ⟨R, hR⟩ : ∃ R, R = bstr ((l.take m).drop k) := ⟨_, rfl⟩
  obtain ⟨R2, hR2⟩ : ∃ R, R = bstr [c] := ⟨_, rfl⟩
  have HK := hide h
  have hg := Blk.lt h
  have HRR := hide hR
  have HRR2 := hide hR2
  have HN : Hid (∀ wx, ScI wx g l k → Calls Tryz.prog 117 #[.pointer (some ⟨g, 0, none⟩)] wx fun e w' => e = .returned (.string R) ∧ KG g wx w' ∧ ScI w' g l m) := hide (fun wx hx => by rw [hR]; exact sname_any g l k m wx hx hl hn)
  have HE1 : Hid (∀ wx, ScI wx g l m → Calls Tryz.prog 115 #[.pointer (some ⟨g, 0, none⟩), .int .u8 61] wx fun e w' => e = .returned (.tuple #[]) ∧ KG g wx w' ∧ ScI w' g l (m + 1)) := hide (fun wx hx => eat_n g l m 61 61 (by decide) wx hx hl h1)
  have HE2 : Hid (∀ wx, ScI wx g l (m + 1) → Calls Tryz.prog 115 #[.pointer (some ⟨g, 0, none⟩), .int .u8 34] wx fun e w' => e = .returned (.tuple #[]) ∧ KG g wx w' ∧ ScI w' g l v) := hide (fun wx hx => by rw [hv]; exact eat_n g l (m + 1) 34 34 (by decide) wx hx hl h2)
  have HV : Hid (∀ wx, ScI wx g l v → Calls Tryz.prog 128 #[.pointer (some ⟨g, 0, none⟩)] wx fun e w' => e = .returned (.string R2) ∧ KG g wx w' ∧ ScI w' g l e1) := hide (fun wx hx => by rw [hR2]; exact svalue_any g l v q e1 c wx hx hl hc h3 h4 hq he)
  obtain ⟨W0, hW0⟩ : ∃ W0, W0 = w.alloc (.cells #[.string ⟨#[]⟩, .string ⟨#[]⟩] 108 (0, 0)) := ⟨_, rfl⟩
  have HW := hide hW0
  have HB0 : Hid (Below w.heap.size w W0) := hide (by rw [hW0]; exact bl_alloc (bl_refl w) _)
  have HK0 : Hid (ScI W0 g l k) := hide (Blk.below h HB0.out)
  have HT0 : Hid (Blk W0 w.heap.size [.string ⟨#[]⟩, .string ⟨#[]⟩] 108) := hide (by rw [hW0]; exact Blk.new w _ _)
  clear h hR hR2 hn h1 h2 h3 h4 hc hq he hv hl hW0
  go_enter Tryz.func118, Tryz.ntmps118
  have hgn : Hid (w.heap.size ≠ g) := hide (by omega)
  have q1 : (w.alloc (.cells #[.string ⟨#[]⟩, .string ⟨#[]⟩] 108 (0, 0))).cell? ⟨g, 1, none⟩ = some (.int .i64 (k : Int)) := by rw [← HW.out]; exact Blk.cell HK0.out (k := 1) rfl
  go_wp2_with fail
  clear q1
  rw [← HW.out]
  refine (HN.out _ HK0.out).mono ?_
  rintro e w1 ⟨rfl, hk1, hs1⟩
  have HK1 := hide hk1
  have HS1 := hide hs1
  clear hk1 hs1
  go_wp2_with fail
  refine (has0_any _ _).mono ?_
  rintro e w' ⟨rfl, rfl⟩
  go_wp2_with fail
  refine (HE1.out _ HS1.out).mono ?_
  rintro e w2 ⟨rfl, hk2, hs2⟩
  have HK2 := hide (HK1.out.trans hk2)
  have HS2 := hide hs2
  clear hk2 hs2
  go_wp2_with fail
  refine (HE2.out _ HS2.out).mono ?_
  rintro e w3 ⟨rfl, hk3, hs3⟩
  have HK3 := hide (HK2.out.trans hk3)
  have HS3 := hide hs3
  clear hk3 hs3
  go_wp2_with fail
  refine (HV.out _ HS3.out).mono ?_
  rintro e w4 ⟨rfl, hk4, hs4⟩
  have HK4 := hide (HK3.out.trans hk4)
  have HT4 := hide (HT0.out.kg HK4.out hgn.out)
  have f0 := HT4.out.fr 0
  have f1 := HT4.out.fr 1
  have m0 := HT4.out.cell (k := 0) rfl
  have m1 := HT4.out.cell (k := 1) rfl
  have HT5 := hide ((HT4.out.set 0 (.string R)).set 1 (.string R2))
  have n0 := HT5.out.cell (k := 0) rfl
  have n1 := HT5.out.cell (k := 1) rfl
  have HS4 : Hid (ScI ((w4.setCell ⟨w.heap.size, 0, none⟩ (.string R)).setCell ⟨w.heap.size, 1, none⟩ (.string R2)) g l e1) := hide (Blk.setne (Blk.setne hs4 (Ne.symm hgn.out) 0 _) (Ne.symm hgn.out) 1 _)
  clear hk4 hs4
  go_wp2
  refine bodyPost_ret (v := .agg #[.string R, .string R2]) (by simp [results, Tryz.results118, go_sem, n0, n1]) rfl ⟨by rw [HRR.out, HRR2.out], ?_, HS4.out⟩
  exact (((KG.of HB0.out).trans HK4.out).set_new (Nat.le_refl _) 0 _).set_new (Nat.le_refl _) 1 _
end Go.Proofs.YtbpkclopcoaikaaGreatDoor
