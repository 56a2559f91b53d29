/- The state of the reader of vertical files; an append to nothing in a drawn region; FindText. The walk of the reader's endText. The walk of the reader's beginText, at the first text. The walk of the reader's beginRegion, at the first region. The walk of the reader's endRegion, at the one region that is open. -/
import Derived.Test.YtbpkclopcoaikaaGreatDoorMf
import Derived.Test.YtbpkclopcoaikaaGreatDoorMd
namespace Go.Proofs.YtbpkclopcoaikaaGreatDoor
open Go.RowKit
set_option linter.unusedVariables false
set_option linter.unusedSimpArgs false
theorem own_ty_apart {w : World} {b b' s s' n n' : Nat} {T T' : TypeId} {v v' : Value} {xs xs' : List Value} (h : w.ownsRow b T s v n xs) (h' : w.ownsRow b' T' s' v' n' xs') (hT : T ≠ T') : ∀ q, v.ownBlock = some q → v'.ownBlock = some q → False := by
  intro q hq hq'
  rcases h.2 with ⟨rfl, _⟩ | ⟨g, cap, cur, rfl, -, hg, -⟩
  · cases hq
  · rcases h'.2 with ⟨rfl, _⟩ | ⟨g', cap', cur', rfl, -, hg', -⟩
    · cases hq'
    · simp [Value.ownBlock] at hq hq'
      subst hq hq'
      rw [hg] at hg'
      injection hg' with hg'
      injection hg' with _ ht _
      exact hT ht
/-- A slice literal of one element. -/
def LitS (T : TypeId) (news : List Value) : Value → World → Prop := fun v w => ∃ b, v = .slice (some ⟨b, 0, none⟩) 1 1 ∧ Blk w b news T
theorem stab_lit (T : TypeId) (news : List Value) : Stab (.p (LitS T news)) := fun u w w' hb ⟨b, h1, h2⟩ => ⟨b, h1, h2.below hb⟩
def FreshS (base : Nat) (e : TypeId) (size n : Nat) (xs : List Value) : Value → World → Prop := fun v w => base ≤ w.heap.size ∧ w.ownsRow base e size v n xs
theorem stab_freshS (base : Nat) (e : TypeId) (size n : Nat) (xs : List Value) : Stab (.p (FreshS base e size n xs)) := fun u w w' hb ⟨h1, h2⟩ => ⟨Nat.le_trans h1 hb.size, ownG_below h2 hb⟩
theorem blk_rd {w : World} {b : Nat} {cs : List Value} {T : TypeId} (h : Blk w b cs T) : Rd w (some ⟨b, 0, none⟩) cs := .inr ⟨b, 0, rfl, h.lt, fun k v hv => by rw [Nat.zero_add]; exact h.cell hv⟩
theorem opS_append_lit {P : Program} {C : World → Prop} {F : List Slot} {o : Oper} (s x : Operand) (t : TypeId)
    (ho : o.op = .call { callee := .builtin .append, args := #[s, x], argTypes := #[t, t] })
    (base : Nat) (e T : TypeId) (i : TypeInfo) (z : Value) (size bytes : Nat) (ht : P.underlying t = some (.slice e)) (hi : P.info? e = some i) (hz : i.zero = some z)
    (hsize : i.size = size) (hby : i.bytes = bytes) (hzs : z.cells.size = size) (hsz : 0 < size)
    (news : List Value) (hl : news.length = 1 * size) (h1 : ∀ u ∈ news, u.oneCell' = true)
    (hs : opndS F s = .c (.slice none 0 0)) (hx : opndS F x = .p (LitS T news))
    (hC : ∀ w, C w → base ≤ w.heap.size) (hbytes : 1 * bytes ≤ 140737488355328) : opS P C F o (.p (FreshS base e size 1 news)) := by
  intro ev w hw hops
  have e1 : ev s = .slice none 0 0 := by
    have := hops s (by simp [ho, Op.operands, Call.operands])
    rwa [hs] at this
  have e2 : LitS T news (ev x) w := by
    have := hops x (by simp [ho, Op.operands, Call.operands])
    rwa [hx] at this
  obtain ⟨b, e2, hb⟩ := e2
  obtain ⟨v', w', hrun, h2, h3, h4⟩ := run_append_rd (P := P) w base t o.type e i z size bytes ht hi hz hsize hby hzs hsz (.slice none 0 0) 0 [] (World.ownsRow_nil w base e size) (some ⟨b, 0, none⟩) 1 1 news hl (blk_rd hb) h1 (by simp only [maxLen]; omega) (by simpa using hbytes) (hC w hw)
  unfold execOp
  simp only [ho, resolve, invoke, builtin, Sem.run_bind, Sem.run_pure, Result.andThen_ok, List.map_toArray, List.map_cons, List.map_nil, e1, e2, hrun]
  exact ⟨bl_grown (bl_refl w) h3 (fun k hk => by simp [Value.ownBlock] at hk), Nat.le_trans (hC w hw) h3.size, by simpa using h2⟩
/-! ### The reader -/
def txtV (x : Int × Int) : List Value := [.string (bstr [116]), iv x.1, iv x.2, .slice none 0 0]
def regV (x : Int × Int) : List Value := [.string (bstr [115]), iv x.1, iv x.2, .slice none 0 0]
/-- The rows that the reader has made. -/
structure Rows (w : World) (B : Nat) (toks : List UInt8) (tx rg op : List (Int × Int)) (vT vX vR vO : Value) : Prop where
  T : ∃ ts : List Value, w.ownsRow B 28 1 vT toks.length ts ∧ ∀ (i : Nat) (c : UInt8), toks[i]? = some c → ∃ v, ts[i]? = some v ∧ w.ownsRow B 9 1 v 1 [.string (bstr [c])]
  X : w.ownsRow B 88 4 vX tx.length (tx.flatMap txtV)
  R : w.ownsRow B 76 4 vR rg.length (rg.flatMap regV)
  O : w.ownsRow B 76 4 vO op.length (op.flatMap regV)
theorem Rows.below {w w' : World} {B : Nat} {toks : List UInt8} {tx rg op : List (Int × Int)} {vT vX vR vO : Value} (h : Rows w B toks tx rg op vT vX vR vO) (hb : Below w.heap.size w w') : Rows w' B toks tx rg op vT vX vR vO := by
  obtain ⟨⟨ts, h1, h2⟩, h3, h4, h5⟩ := h
  exact ⟨⟨ts, ownG_below h1 hb, fun i c hc => let ⟨v, e, ho⟩ := h2 i c hc; ⟨v, e, ownG_below ho hb⟩⟩, ownG_below h3 hb, ownG_below h4 hb, ownG_below h5 hb⟩
theorem Rows.setlt {w : World} {B : Nat} {toks : List UInt8} {tx rg op : List (Int × Int)} {vT vX vR vO : Value} (h : Rows w B toks tx rg op vT vX vR vO) {g : Nat} (hg : g < B) (k : Nat) (u : Value) : Rows (w.setCell ⟨g, k, none⟩ u) B toks tx rg op vT vX vR vO := by
  obtain ⟨⟨ts, h1, h2⟩, h3, h4, h5⟩ := h
  exact ⟨⟨ts, ownG_setlt h1 hg k u, fun i c hc => let ⟨v, e, ho⟩ := h2 i c hc; ⟨v, e, ownG_setlt ho hg k u⟩⟩, ownG_setlt h3 hg k u, ownG_setlt h4 hg k u, ownG_setlt h5 hg k u⟩
/-- The reader's block. -/
def RdB (w : World) (g : Nat) (vA vT vX vR vO : Value) (tb : Bool) : Prop := Blk w g [vA, vT, vX, vR, .slice none 0 0, .slice none 0 0, .slice none 0 0, vO, .bool tb] 93
def RdC (vA vT vX vR : Value) : Value := .agg #[vA, vT, vX, vR, .slice none 0 0, .slice none 0 0, .slice none 0 0]
set_option maxHeartbeats 2000000 in
set_option maxRecDepth 100000 in
theorem find0_any (vA vT vR : Value) (S : ByteArray) (w : World) : Calls Tryz.prog 72 #[.agg #[vA, vT, .slice none 0 0, vR, .slice none 0 0, .slice none 0 0, .slice none 0 0], .string S] w fun e w' => e = .returned (.int .i64 (-1)) ∧ Below w.heap.size w w' := by
  have HB := hide (bl_alloc (bl_refl w) (.cells #[vA, vT, .slice none 0 0, vR, .slice none 0 0, .slice none 0 0, .slice none 0 0] 30 (0, 0)))
  go_enter Tryz.func72, Tryz.ntmps72
  go_wp2_with fail
  go_loopw [10] (fun k wr => Hid (k = .int .i64 0 ∧ Below w.heap.size w wr)) (fun _ _ => 0)
  case atStart => exact hide ⟨rfl, HB.out⟩
  case round =>
    obtain ⟨rfl, hb⟩ := hrel.out
    have HB2 := hide hb
    clear hb HB hrel
    go_wp2
    go_ret
    exact ⟨rfl, HB2.out⟩
end Go.Proofs.YtbpkclopcoaikaaGreatDoor
namespace Go.Proofs.YtbpkclopcoaikaaGreatDoor
open Go.RowKit
set_option linter.unusedVariables false
set_option linter.unusedSimpArgs false
/-- What lies below g is kept, and every row behind g of another type than e. -/
structure KR (g : Nat) (e : TypeId) (w w' : World) : Prop where
  b : Below g w w'
  r : ∀ (b' : Nat) (T' : TypeId) (s' : Nat) (v' : Value) (n' : Nat) (xs' : List Value), g < b' → T' ≠ e → w.ownsRow b' T' s' v' n' xs' → w'.ownsRow b' T' s' v' n' xs'
def EtP (gx : Nat) (vA vT vX vR vO : Value) (w : World) (e : Ending) (w' : World) : Prop := e = .returned (.int .i64 0) ∧ KR gx 88 w w' ∧ RdB w' gx vA vT vX vR vO false ∧ w'.ownsRow (gx + 1) 88 4 vX 1 (txtV (0, 2))
set_option maxHeartbeats 16000000 in
set_option maxRecDepth 100000 in
theorem endT_any (gx : Nat) (vA vX vR : Value) (ta oa : Option Addr) (tc oc : Nat) (w : World) (h : RdB w gx vA (.slice ta 2 tc) vX vR (.slice oa 0 oc) true) (ho : w.ownsRow (gx + 1) 88 4 vX 1 (txtV (0, -1))) : Calls Tryz.prog 68 #[.pointer (some ⟨gx, 0, none⟩), .agg #[.bool true, .string (bstr [116, 101, 120, 116]), .slice none 0 0]] w (EtP gx vA (.slice ta 2 tc) vX vR (.slice oa 0 oc) w) := by
  obtain ⟨T1, hT1⟩ : ∃ S, S = bstr [116] := ⟨_, rfl⟩
  obtain ⟨TX, hTX⟩ : ∃ S, S = bstr [116, 101, 120, 116] := ⟨_, rfl⟩
  unfold txtV at ho
  rw [← hT1] at ho
  rw [← hTX]
  have HT1x := hide hT1
  obtain ⟨gX, cX, hv, hcX, hgX, hlX⟩ := ownG_pos ho (by omega)
  subst hv
  have HR := hide h
  have HO := hide ho
  obtain ⟨W0, hW0⟩ : ∃ W0, W0 = w.alloc (.cells #[.bool true, .string TX, .slice none 0 0] 114 (0, 0)) := ⟨_, rfl⟩
  have HW := hide hW0
  have HB0 : Hid (Below w.heap.size w W0) := hide (by rw [hW0]; exact bl_alloc (bl_refl w) _)
  have hgx := Blk.lt h
  clear h hT1 hW0 ho hTX hcX hlX
  have r7 := Blk.cell HR.out (k := 7) rfl
  have r8 := Blk.cell HR.out (k := 8) rfl
  have hw0 : IntKind.i64.wrap 0 = 0 := wrap_ok (by omega) (by omega)
  go_enter Tryz.func68, Tryz.ntmps68
  go_wp2_with fail
  rw [← HW.out]
  clear r7 r8
  have HR0 : Hid (RdB W0 gx vA (.slice ta 2 tc) (.slice (some ⟨gX, 0, none⟩) 1 cX) vR (.slice oa 0 oc) true) := hide (Blk.below HR.out HB0.out)
  have HO0 := hide (ownG_below HO.out HB0.out)
  have r1 := Blk.cell HR0.out (k := 1) rfl
  have r2 := Blk.cell HR0.out (k := 2) rfl
  have o1 := (ownG_at (k := 1) HO0.out rfl).1
  simp only [iv] at o1
  go_quiet (fail)
  go_wp2_with fail
  clear hw0 r2 o1 r1
  have HB1 : Hid (Below w.heap.size w (W0.drewN nq)) := hide (bl_drewN HB0.out nq)
  have HR1 : Hid (RdB (W0.drewN nq) gx vA (.slice ta 2 tc) (.slice (some ⟨gX, 0, none⟩) 1 cX) vR (.slice oa 0 oc) true) := hide (Blk.below HR.out HB1.out)
  have HO1 : Hid ((W0.drewN nq).ownsRow (gx + 1) 88 4 (.slice (some ⟨gX, 0, none⟩) 1 cX) 1 [.string T1, iv 0, iv (-1), .slice none 0 0]) := hide (ownG_below HO.out HB1.out)
  obtain ⟨w1, hw1⟩ : ∃ w1, w1 = W0.drewN nq := ⟨_, rfl⟩
  rw [← hw1] at HB1 HR1 HO1 ⊢
  clear hw1
  have r1 := Blk.cell HR1.out (k := 1) rfl
  have o1 := (ownG_at (k := 1) HO1.out rfl).1
  simp only [iv] at o1
  go_quiet (fail)
  clear o1
  obtain ⟨o2, f2⟩ := ownG_at (k := 2) HO1.out rfl
  simp only [iv] at o2
  have HB2 : Hid (Below w.heap.size w (w1.drewN nq)) := hide (bl_drewN HB1.out nq)
  have HR2 : Hid (RdB ((w1.drewN nq).setCell ⟨gX, 2, none⟩ (.int .i64 2)) gx vA (.slice ta 2 tc) (.slice (some ⟨gX, 0, none⟩) 1 cX) vR (.slice oa 0 oc) true) := hide (Blk.setne (w := w1.drewN nq) HR1.out (by omega) 2 _)
  have HO2 : Hid (((w1.drewN nq).setCell ⟨gX, 2, none⟩ (.int .i64 2)).ownsRow (gx + 1) 88 4 (.slice (some ⟨gX, 0, none⟩) 1 cX) 1 [.string T1, iv 0, iv 2, .slice none 0 0]) := hide (ownG_set (w := w1.drewN nq) HO1.out 2 (.int .i64 2))
  have r8 := Blk.cell HR2.out (k := 8) rfl
  have f8 := Blk.fr HR2.out 8
  have HR3 : Hid (RdB (((w1.drewN nq).setCell ⟨gX, 2, none⟩ (.int .i64 2)).setCell ⟨gx, 8, none⟩ (.bool false)) gx vA (.slice ta 2 tc) (.slice (some ⟨gX, 0, none⟩) 1 cX) vR (.slice oa 0 oc) false) := hide (Blk.set HR2.out 8 _)
  have HO3 := hide (ownG_setlt HO2.out (g := gx) (by omega) 8 (.bool false))
  have HK3 : Hid (KR gx 88 w (((w1.drewN nq).setCell ⟨gX, 2, none⟩ (.int .i64 2)).setCell ⟨gx, 8, none⟩ (.bool false))) := hide ⟨((HB2.out.mono (Nat.le_of_lt hgx)).setCell (p := ⟨gX, 2, none⟩) (by simp only; omega) _).setCell (p := ⟨gx, 8, none⟩) (Nat.le_refl _) _, fun b' T' s' v' n' xs' hb' hT' hown => ownG_setlt (ownG_setne (ownG_below hown HB2.out) (fun e => own_ty_apart (ownG_below hown HB2.out) (ownG_below HO.out HB2.out) hT' gX e rfl) 2 _) hb' 8 _⟩
  go_wp2
  go_ret
  exact ⟨rfl, HK3.out, HR3.out, by show World.ownsRow _ _ _ 4 _ 1 [.string (bstr [116]), iv 0, iv 2, .slice none 0 0]; rw [← HT1x.out]; exact HO3.out⟩
end Go.Proofs.YtbpkclopcoaikaaGreatDoor
namespace Go.Proofs.YtbpkclopcoaikaaGreatDoor
open Go.RowKit
set_option linter.unusedVariables false
set_option linter.unusedSimpArgs false
theorem info_text : (Tryz.prog.info? 88).map (fun i => (i.zero, i.size, i.bytes)) = some (some (.agg #[.string ⟨#[]⟩, .int .i64 0, .int .i64 0, .slice none 0 0]), 4, 56) := by kernel_rfl
def BtP (gx : Nat) (vA vT vR vO : Value) (w : World) (e : Ending) (w' : World) : Prop := e = .returned (.int .i64 0) ∧ Below gx w w' ∧ ∃ vX, RdB w' gx vA vT vX vR vO true ∧ w'.ownsRow (gx + 1) 88 4 vX 1 (txtV (0, -1)) ∧ KG gx w w'
set_option maxHeartbeats 16000000 in
set_option maxRecDepth 100000 in
theorem begT_any (gx : Nat) (vA vR vO : Value) (ka : Option Addr) (kc : Nat) (w : World) (h : RdB w gx vA (.slice none 0 0) (.slice none 0 0) vR vO false) (hk : Rd w ka [.string (bstr [105, 100]), .string (bstr [116])]) : Calls Tryz.prog 67 #[.pointer (some ⟨gx, 0, none⟩), .agg #[.bool false, .string (bstr [116, 101, 120, 116]), .slice ka 1 kc]] w (BtP gx vA (.slice none 0 0) vR vO w) := by
  obtain ⟨i2, hi2, hz0, hz1, hz2⟩ := info_parts info_text
  obtain ⟨T1, hT1⟩ : ∃ S, S = bstr [116] := ⟨_, rfl⟩
  obtain ⟨TX, hTX⟩ : ∃ S, S = bstr [116, 101, 120, 116] := ⟨_, rfl⟩
  rw [← hT1] at hk
  rw [← hTX]
  obtain ⟨b, o, rfl, hb, hc⟩ := hk.open_ (by simp)
  have e0 := hc 0 _ rfl
  have e1 := hc 1 _ rfl
  simp only [Nat.add_zero] at e0
  have HE := hide (And.intro e0 e1)
  have HR := hide h
  have HNM : Hid (∀ wx, Calls Tryz.prog 50 #[.string T1] wx fun e w' => e = .returned (.bool true) ∧ wx = w') := hide (fun wx => by rw [hT1]; exact mname_any [116] wx)
  have HT1x := hide hT1
  obtain ⟨W0, hW0⟩ : ∃ W0, W0 = (w.alloc (.cells #[.bool false, .string TX, .slice (some ⟨b, o, none⟩) 1 kc] 114 (0, 0))).alloc (.cells #[.string ⟨#[]⟩, .int .i64 0, .int .i64 (-1), .slice none 0 0] 88 (0, 0)) := ⟨_, rfl⟩
  have HW := hide hW0
  have HB0 : Hid (Below w.heap.size w W0) := hide (by rw [hW0]; exact bl_alloc (bl_alloc (bl_refl w) _) _)
  have HK0 : Hid (Blk W0 w.heap.size [.bool false, .string TX, .slice (some ⟨b, o, none⟩) 1 kc] 114) := hide (by rw [hW0]; exact (Blk.new w _ _).alloc _)
  have HT0 : Hid (Blk W0 (w.heap.size + 1) [.string ⟨#[]⟩, .int .i64 0, .int .i64 (-1), .slice none 0 0] 88) := hide (by rw [hW0]; exact Blk.newG (by simp) _ _)
  have HR0 : Hid (RdB W0 gx vA (.slice none 0 0) (.slice none 0 0) vR vO false) := hide (Blk.below h HB0.out)
  have hgx := Blk.lt h
  clear hc e0 e1 h hk hT1 hTX hW0 hb
  have r1 := Blk.cell HR.out (k := 1) rfl
  have r2 := Blk.cell HR.out (k := 2) rfl
  have r8 := Blk.cell HR.out (k := 8) rfl
  go_enter Tryz.func67, Tryz.ntmps67
  go_wp2_with fail
  rw [← HW.out]
  clear r1 r2 r8
  go_loopw [6, 32] (fun fv kv wr => Hid (fv = .bool false ∧ kv = .int .i64 0 ∧ wr = W0 ∨ fv = .bool true ∧ kv = .int .i64 1 ∧ Below w.heap.size w wr ∧ Blk wr (w.heap.size + 1) [.string T1, .int .i64 0, .int .i64 (-1), .slice none 0 0] 88)) (fun _ kv _ => 1 - (intOf kv).toNat)
  case atStart => exact hide (.inl ⟨rfl, rfl, rfl⟩)
  case round =>
    rcases hrel.out with ⟨rfl, rfl, hww⟩ | ⟨rfl, rfl, hb1, ht1⟩
    · obtain rfl : W0 = wr := hww.symm
      have k0 := (HB0.out.cell (lt_heap HE.out.1)).trans HE.out.1
      have k1 := (HB0.out.cell (lt_heap HE.out.2)).trans HE.out.2
      have HT1 := hide (HT0.out.alloc (.cells #[.string (bstr [105, 100]), .string T1] 108 (0, 0)))
      have f0 := HT1.out.fr 0
      have m0 := HT1.out.cell (k := 0) rfl
      have HT2 := hide (HT1.out.set 0 (.string T1))
      have HB2 := hide (bl_set (bl_alloc HB0.out (.cells #[.string (bstr [105, 100]), .string T1] 108 (0, 0))) (p := ⟨w.heap.size + 1, 0, none⟩) (by simp only; omega) (.string T1))
      go_wp2
      go_roundw
      case rel => exact hide (.inr ⟨rfl, rfl, HB2.out, HT2.out⟩)
      case measure => simp [intOf]
    · have HB1 := hide hb1
      have HT1 := hide ht1
      have HR1 : Hid (RdB wr gx vA (.slice none 0 0) (.slice none 0 0) vR vO false) := hide (Blk.below HR.out hb1)
      have t0 := ht1.cell (k := 0) rfl
      clear hb1 ht1
      go_wp2_with fail
      refine (HNM.out _).mono ?_
      rintro e w' ⟨rfl, rfl⟩
      clear t0
      have HF : Hid (∀ wx, Calls Tryz.prog 72 #[.agg #[vA, .slice none 0 0, .slice none 0 0, vR, .slice none 0 0, .slice none 0 0, .slice none 0 0], .string T1] wx fun e w' => e = .returned (.int .i64 (-1)) ∧ Below wx.heap.size wx w') := hide (fun wx => find0_any vA _ vR T1 wx)
      go_wp2_with fail
      refine wp_region_K 6 (by kernel_rfl) (by kernel_rfl) (fun Q HQ => ?_)
      simp only [List.take_succ_cons, List.take_zero, List.map_cons, List.map_nil]
      repeat
        first
        | (refine wpS_skip (b := true) rfl (guard_mk rfl rfl) ?_)
        | (refine wpS_skip (b := false) rfl (guard_mk rfl rfl) ?_)
        | (refine wpS_skipU rfl (guardU_mk rfl rfl) ?_)
        | (first | apply wpS_c rfl | apply wpS_gc rfl (guard_mk rfl rfl)
           focus
             intro ev wx hC hx
             (try simp [Op.operands, Call.operands, opndS, Slot.holds] at hx)
             have r0 := hC.cell (Blk.cell HR1.out (k := 0) rfl)
             have r1 := hC.cell (Blk.cell HR1.out (k := 1) rfl)
             have r2 := hC.cell (Blk.cell HR1.out (k := 2) rfl)
             have r3 := hC.cell (Blk.cell HR1.out (k := 3) rfl)
             have r4 := hC.cell (Blk.cell HR1.out (k := 4) rfl)
             have r5 := hC.cell (Blk.cell HR1.out (k := 5) rfl)
             have r6 := hC.cell (Blk.cell HR1.out (k := 6) rfl)
             have t0 := hC.cell (HT1.out.cell (k := 0) rfl)
             go_simp
             try (first | exact rfl | exact ⟨Below.refl _ _, rfl⟩)
             done)
        dsimp only [setS, List.set]
      refine wpS_nil (HQ _ fun w2 hC2 => ?_)
      simp only [closeS, List.drop_succ_cons, List.drop_zero, List.drop_nil]
      have HB2 := hide (HB1.out.trans (hC2.below.mono HB1.out.size))
      have HT2 := hide (HT1.out.below hC2.below)
      clear HQ hC2 HR1 HT1 HB1
      go_wp2_with fail
      refine (HF.out _).mono ?_
      rintro e w3 ⟨rfl, hb3⟩
      have HB3 := hide (HB2.out.trans (hb3.mono HB2.out.size))
      have HT3 := hide (HT2.out.below hb3)
      have HR3 : Hid (RdB w3 gx vA (.slice none 0 0) (.slice none 0 0) vR vO false) := hide (Blk.below HR.out HB3.out)
      have HSZ := hide (show gx + 1 ≤ w3.heap.size by have := HB3.out.size; omega)
      clear hb3 HF HT2 HB2
      go_wp2_with fail
      refine wp_region_K 9 (by kernel_rfl) (by kernel_rfl) (fun Q HQ => ?_)
      simp only [List.take_succ_cons, List.take_zero, List.map_cons, List.map_nil]
      repeat
        first
        | (refine wpS_skip (b := true) rfl (guard_mk rfl rfl) ?_)
        | (refine wpS_skip (b := false) rfl (guard_mk rfl rfl) ?_)
        | (refine wpS_skipU rfl (guardU_mk rfl rfl) ?_)
        | (first | apply wpS_c rfl | apply wpS_gc rfl (guard_mk rfl rfl)
           focus
             intro ev wx hC hx
             (try simp [Op.operands, Call.operands, opndS, Slot.holds] at hx)
             have r2 := hC.cell (Blk.cell HR3.out (k := 2) rfl)
             have t0 := hC.cell (HT3.out.cell (k := 0) rfl)
             have t1 := hC.cell (HT3.out.cell (k := 1) rfl)
             have t2 := hC.cell (HT3.out.cell (k := 2) rfl)
             have t3 := hC.cell (HT3.out.cell (k := 3) rfl)
             go_simp
             try (first | exact rfl | exact ⟨Below.refl _ _, rfl⟩)
             done)
        dsimp only [setS, List.set]
      refine wpS_p (R := LitS 88 [.string T1, .int .i64 0, .int .i64 (-1), .slice none 0 0]) rfl (stab_lit _ _) ?_ ?_
      focus
        intro ev wx hC hx
        (try simp [Op.operands, Call.operands, opndS, Slot.holds] at hx)
        go_simp
        exact ⟨bl_alloc (bl_refl wx) _, wx.heap.size, rfl, Blk.new wx _ _⟩
      dsimp only [setS, List.set]
      refine wpS_p rfl (stab_freshS (gx + 1) 88 4 1 [.string T1, .int .i64 0, .int .i64 (-1), .slice none 0 0]) (opS_append_lit (.tmp 71) (.tmp 73) 24 rfl (gx + 1) 88 88 i2 _ 4 56 Tryz.underlying24 hi2 hz0 hz1 hz2 rfl (by decide) [.string T1, .int .i64 0, .int .i64 (-1), .slice none 0 0] rfl (by intro u hu; simp at hu; rcases hu with rfl | rfl | rfl | rfl <;> rfl) rfl rfl (fun wx hC => by have := hC.below.size; have := HSZ.out; omega) (by decide)) ?_
      dsimp only [setS, List.set]
      refine wpS_nil (HQ _ fun w4 hC4 => ?_)
      simp only [closeS, List.drop_succ_cons, List.drop_zero, List.drop_nil]
      rintro - - v74 ⟨-, ho4⟩
      obtain ⟨gt, ct, hv, _, hgb, hgl⟩ := ownG_pos ho4 (by omega)
      subst hv
      have HB4 := hide (HB3.out.trans (hC4.below.mono HB3.out.size))
      have HR4 : Hid (RdB w4 gx vA (.slice none 0 0) (.slice none 0 0) vR vO false) := hide (Blk.below HR.out HB4.out)
      have HO4 := hide ho4
      clear HQ hC4 ho4 hgb hgl
      have r2 := Blk.cell HR4.out (k := 2) rfl
      have f2 := Blk.fr HR4.out 2
      have HR5 : Hid (RdB (w4.setCell ⟨gx, 2, none⟩ (.slice (some ⟨gt, 0, none⟩) 1 ct)) gx vA (.slice none 0 0) (.slice (some ⟨gt, 0, none⟩) 1 ct) vR vO false) := hide (Blk.set HR4.out 2 _)
      have r8 := Blk.cell HR5.out (k := 8) rfl
      have f8 := Blk.fr HR5.out 8
      have HR6 : Hid (RdB ((w4.setCell ⟨gx, 2, none⟩ (.slice (some ⟨gt, 0, none⟩) 1 ct)).setCell ⟨gx, 8, none⟩ (.bool true)) gx vA (.slice none 0 0) (.slice (some ⟨gt, 0, none⟩) 1 ct) vR vO true) := hide (Blk.set HR5.out 8 _)
      have HO6 := hide (ownG_setlt (ownG_setlt HO4.out (g := gx) (by omega) 2 (.slice (some ⟨gt, 0, none⟩) 1 ct)) (g := gx) (by omega) 8 (.bool true))
      have HB6 : Hid (Below gx w ((w4.setCell ⟨gx, 2, none⟩ (.slice (some ⟨gt, 0, none⟩) 1 ct)).setCell ⟨gx, 8, none⟩ (.bool true))) := hide (((HB4.out.mono (Nat.le_of_lt hgx)).setCell (p := ⟨gx, 2, none⟩) (Nat.le_refl _) _).setCell (p := ⟨gx, 8, none⟩) (Nat.le_refl _) _)
      have HH6 := hide (((KG.of (g := gx) HB4.out).setCell 2 (.slice (some ⟨gt, 0, none⟩) 1 ct)).setCell 8 (.bool true))
      go_wp2
      go_ret
      exact ⟨rfl, HB6.out, _, HR6.out, by show World.ownsRow _ _ _ 4 _ 1 [.string (bstr [116]), iv 0, iv (-1), .slice none 0 0]; rw [← HT1x.out]; exact HO6.out, HH6.out⟩
end Go.Proofs.YtbpkclopcoaikaaGreatDoor
namespace Go.Proofs.YtbpkclopcoaikaaGreatDoor
open Go.RowKit
set_option linter.unusedVariables false
set_option linter.unusedSimpArgs false
theorem info_region : (Tryz.prog.info? 76).map (fun i => (i.zero, i.size, i.bytes)) = some (some (.agg #[.string ⟨#[]⟩, .int .i64 0, .int .i64 0, .slice none 0 0]), 4, 56) := by kernel_rfl
def BrP (gx : Nat) (vA vX vR : Value) (w : World) (e : Ending) (w' : World) : Prop := e = .returned (.int .i64 0) ∧ KG gx w w' ∧ ∃ vO, RdB w' gx vA (.slice none 0 0) vX vR vO true ∧ w'.ownsRow (gx + 1) 76 4 vO 1 (regV (0, 0))
set_option maxHeartbeats 16000000 in
set_option maxRecDepth 100000 in
theorem begR_any (gx : Nat) (vA vX : Value) (w : World) (h : RdB w gx vA (.slice none 0 0) vX (.slice none 0 0) (.slice none 0 0) true) : Calls Tryz.prog 65 #[.pointer (some ⟨gx, 0, none⟩), .agg #[.bool false, .string (bstr [115]), .slice none 0 0]] w (BrP gx vA vX (.slice none 0 0) w) := by
  obtain ⟨i2, hi2, hz0, hz1, hz2⟩ := info_parts info_region
  obtain ⟨T1, hT1⟩ : ∃ S, S = bstr [115] := ⟨_, rfl⟩
  rw [← hT1]
  have HR := hide h
  have HT1x := hide hT1
  obtain ⟨W0, hW0⟩ : ∃ W0, W0 = w.alloc (.cells #[.bool false, .string T1, .slice none 0 0] 114 (0, 0)) := ⟨_, rfl⟩
  have HW := hide hW0
  have HB0 : Hid (Below w.heap.size w W0) := hide (by rw [hW0]; exact bl_alloc (bl_refl w) _)
  have HK0 : Hid (Blk W0 w.heap.size [.bool false, .string T1, .slice none 0 0] 114) := hide (by rw [hW0]; exact Blk.new w _ _)
  have HR0 : Hid (RdB W0 gx vA (.slice none 0 0) vX (.slice none 0 0) (.slice none 0 0) true) := hide (Blk.below h HB0.out)
  have hgx := Blk.lt h
  clear h hT1 hW0
  have r3 := Blk.cell HR.out (k := 3) rfl
  have r7 := Blk.cell HR.out (k := 7) rfl
  have r8 := Blk.cell HR.out (k := 8) rfl
  go_enter Tryz.func65, Tryz.ntmps65
  go_wp2_with fail
  rw [← HW.out]
  clear r3 r7 r8
  have r3 := Blk.cell HR0.out (k := 3) rfl
  have r7 := Blk.cell HR0.out (k := 7) rfl
  go_quiet (fail)
  go_wp2_with fail
  have HB1 : Hid (Below w.heap.size w (W0.drewN nq)) := hide (bl_drewN HB0.out nq)
  have HR1 : Hid (RdB (W0.drewN nq) gx vA (.slice none 0 0) vX (.slice none 0 0) (.slice none 0 0) true) := hide HR0.out
  have HK1 : Hid (Blk (W0.drewN nq) w.heap.size [.bool false, .string T1, .slice none 0 0] 114) := hide HK0.out
  have HSZ := hide (show gx + 1 ≤ (W0.drewN nq).heap.size by have := HB0.out.size; simp; omega)
  clear r3 r7
  refine wp_region_K 18 (by kernel_rfl) (by kernel_rfl) (fun Q HQ => ?_)
  simp only [List.take_succ_cons, List.take_zero, List.map_cons, List.map_nil]
  repeat
    first
    | (refine wpS_skip (b := true) rfl (guard_mk rfl rfl) ?_)
    | (refine wpS_skip (b := false) rfl (guard_mk rfl rfl) ?_)
    | (refine wpS_skipU rfl (guardU_mk rfl rfl) ?_)
    | (first | apply wpS_c rfl | apply wpS_gc rfl (guard_mk rfl rfl)
       focus
         intro ev wx hC hx
         (try simp [Op.operands, Call.operands, opndS, Slot.holds] at hx)
         have r1 := hC.cell (Blk.cell HR1.out (k := 1) rfl)
         have r7 := hC.cell (Blk.cell HR1.out (k := 7) rfl)
         have t1 := hC.cell (HK1.out.cell (k := 1) rfl)
         have t2 := hC.cell (HK1.out.cell (k := 2) rfl)
         go_simp
         try (first | exact rfl | exact ⟨Below.refl _ _, rfl⟩)
         done)
    dsimp only [setS, List.set]
  refine wpS_p (R := LitS 76 [.string T1, .int .i64 0, .int .i64 0, .slice none 0 0]) rfl (stab_lit _ _) ?_ ?_
  focus
    intro ev wx hC hx
    (try simp [Op.operands, Call.operands, opndS, Slot.holds] at hx)
    go_simp
    exact ⟨bl_alloc (bl_refl wx) _, wx.heap.size, rfl, Blk.new wx _ _⟩
  dsimp only [setS, List.set]
  refine wpS_p rfl (stab_freshS (gx + 1) 76 4 1 [.string T1, .int .i64 0, .int .i64 0, .slice none 0 0]) (opS_append_lit (.tmp 35) (.tmp 47) 25 rfl (gx + 1) 76 76 i2 _ 4 56 Tryz.underlying25 hi2 hz0 hz1 hz2 rfl (by decide) [.string T1, .int .i64 0, .int .i64 0, .slice none 0 0] rfl (by intro u hu; simp at hu; rcases hu with rfl | rfl | rfl <;> rfl) rfl rfl (fun wx hC => by have := hC.below.size; have := HSZ.out; omega) (by decide)) ?_
  dsimp only [setS, List.set]
  refine wpS_nil (HQ _ fun w4 hC4 => ?_)
  simp only [closeS, List.drop_succ_cons, List.drop_zero, List.drop_nil]
  rintro - - v74 ⟨-, ho4⟩
  obtain ⟨gt, ct, hv, _, hgb, hgl⟩ := ownG_pos ho4 (by omega)
  subst hv
  have HB4 := hide (HB1.out.trans (hC4.below.mono HB1.out.size))
  have HR4 : Hid (RdB w4 gx vA (.slice none 0 0) vX (.slice none 0 0) (.slice none 0 0) true) := hide (Blk.below HR.out HB4.out)
  have HO4 := hide ho4
  clear HQ hC4 ho4 hgb hgl
  have r7 := Blk.cell HR4.out (k := 7) rfl
  have f7 := Blk.fr HR4.out 7
  have HR5 : Hid (RdB (w4.setCell ⟨gx, 7, none⟩ (.slice (some ⟨gt, 0, none⟩) 1 ct)) gx vA (.slice none 0 0) vX (.slice none 0 0) (.slice (some ⟨gt, 0, none⟩) 1 ct) true) := hide (Blk.set HR4.out 7 _)
  have HO5 := hide (ownG_setlt HO4.out (g := gx) (by omega) 7 (.slice (some ⟨gt, 0, none⟩) 1 ct))
  have HG5 := hide ((KG.of (g := gx) HB4.out).setCell 7 (.slice (some ⟨gt, 0, none⟩) 1 ct))
  go_wp2
  go_ret
  exact ⟨rfl, HG5.out, _, HR5.out, by show World.ownsRow _ _ _ 4 _ 1 [.string (bstr [115]), iv 0, iv 0, .slice none 0 0]; rw [← HT1x.out]; exact HO5.out⟩
end Go.Proofs.YtbpkclopcoaikaaGreatDoor
namespace Go.Proofs.YtbpkclopcoaikaaGreatDoor
open Go.RowKit
set_option linter.unusedVariables false
set_option linter.unusedSimpArgs false
theorem run_append0 {P : Program} (w : World) (t ty e : TypeId) (i : TypeInfo) (ht : P.underlying t = some (.slice e)) (hi : P.info? e = some i) (p : Addr) (a : Option Addr) (c c2 : Nat) : (Builtin.append_ #[t, t] ty #[.slice (some p) 0 c, .slice a 0 c2]).run P w = .ok (.slice (some p) 0 c) w := by
  have hl : ∀ (x : Addr), (loadCells x 0).run P w = .ok #[] w := fun x => by simpa using run_loadCells_list (P := P) w x [] (by simp)
  cases a <;> simp [Builtin.append_, run_underlying ht, sizeOf, typeInfo, hi, Builtin.lenOf, Builtin.firstCells, hl, storeCells]
def ErP (gx : Nat) (vA vT vX : Value) (w : World) (e : Ending) (w' : World) : Prop := e = .returned (.int .i64 0) ∧ KG gx w w' ∧ ∃ vR a c, RdB w' gx vA vT vX vR (.slice a 0 c) true ∧ w'.ownsRow (gx + 1) 76 4 vR 1 (regV (0, 1))
set_option maxHeartbeats 16000000 in
set_option maxRecDepth 100000 in
theorem endR_any (gx : Nat) (vA vX vO : Value) (ta : Option Addr) (tc : Nat) (w : World) (h : RdB w gx vA (.slice ta 1 tc) vX (.slice none 0 0) vO true) (ho : w.ownsRow (gx + 1) 76 4 vO 1 (regV (0, 0))) : Calls Tryz.prog 66 #[.pointer (some ⟨gx, 0, none⟩), .agg #[.bool true, .string (bstr [115]), .slice none 0 0]] w (ErP gx vA (.slice ta 1 tc) vX w) := by
  obtain ⟨i2, hi2, hz0, hz1, hz2⟩ := info_parts info_region
  have hap := fun (wx : World) (p : Addr) (a : Option Addr) (c c2 : Nat) (ty : TypeId) => run_append0 (P := Tryz.prog) wx 25 ty 76 i2 Tryz.underlying25 hi2 p a c c2
  have HAP := hide hap
  obtain ⟨T1, hT1⟩ : ∃ S, S = bstr [115] := ⟨_, rfl⟩
  unfold regV at ho
  rw [← hT1] at ho ⊢
  have HT1x := hide hT1
  obtain ⟨gO, cO, hv, hcO, hgO, hlO⟩ := ownG_pos ho (by omega)
  subst hv
  have HR := hide h
  have HO := hide ho
  obtain ⟨W0, hW0⟩ : ∃ W0, W0 = w.alloc (.cells #[.bool true, .string T1, .slice none 0 0] 114 (0, 0)) := ⟨_, rfl⟩
  have HW := hide hW0
  have HB0 : Hid (Below w.heap.size w W0) := hide (by rw [hW0]; exact bl_alloc (bl_refl w) _)
  have HK0 : Hid (Blk W0 w.heap.size [.bool true, .string T1, .slice none 0 0] 114) := hide (by rw [hW0]; exact Blk.new w _ _)
  have hgx := Blk.lt h
  have HLO := hide (And.intro hcO hlO)
  clear h hT1 hW0 ho hap hcO hlO
  have r7 := Blk.cell HR.out (k := 7) rfl
  have r8 := Blk.cell HR.out (k := 8) rfl
  have hw0 : IntKind.i64.wrap 0 = 0 := wrap_ok (by omega) (by omega)
  go_enter Tryz.func66, Tryz.ntmps66
  go_wp2_with fail
  rw [← HW.out]
  clear r7 r8
  go_loopw [5] (fun kv wr => Hid (kv = .int .i64 0 ∧ wr = W0)) (fun _ _ => 0)
  case atStart => exact hide ⟨rfl, rfl⟩
  case round =>
    obtain ⟨rfl, hww⟩ := hrel.out
    obtain rfl : W0 = wr := hww.symm
    have r7 := (HB0.out.cell (lt_heap (Blk.cell HR.out (k := 7) rfl))).trans (Blk.cell HR.out (k := 7) rfl)
    have o0 := (ownG_at (k := 0) (ownG_below HO.out HB0.out) rfl).1
    have t1 := HK0.out.cell (k := 1) rfl
    go_wp2_with fail
    go_quiet (fail)
    clear r7 o0 t1 hww hrel
    have HB1 : Hid (Below w.heap.size w (W0.drewN nq)) := hide (bl_drewN HB0.out nq)
    have HR1 : Hid (RdB (W0.drewN nq) gx vA (.slice ta 1 tc) vX (.slice none 0 0) (.slice (some ⟨gO, 0, none⟩) 1 cO) true) := hide (Blk.below HR.out HB1.out)
    have HO1 : Hid ((W0.drewN nq).ownsRow (gx + 1) 76 4 (.slice (some ⟨gO, 0, none⟩) 1 cO) 1 [.string T1, iv 0, iv 0, .slice none 0 0]) := hide (ownG_below HO.out HB1.out)
    obtain ⟨w1, hw1⟩ : ∃ w1, w1 = W0.drewN nq := ⟨_, rfl⟩
    rw [← hw1] at HB1 HR1 HO1 ⊢
    clear hw1
    have r7 := Blk.cell HR1.out (k := 7) rfl
    have o0 := (ownG_at (k := 0) HO1.out rfl).1
    have o1 := (ownG_at (k := 1) HO1.out rfl).1
    have o2 := (ownG_at (k := 2) HO1.out rfl).1
    have o3 := (ownG_at (k := 3) HO1.out rfl).1
    simp only [iv] at o1 o2
    go_wp2_with fail
    clear r7 o0 o1 o2 o3
    obtain ⟨w2, hw2⟩ : ∃ w2, w2 = w1.alloc (.cells #[.string T1, .int .i64 0, .int .i64 0, .slice none 0 0] 76 (0, 0)) := ⟨_, rfl⟩
    obtain ⟨gr, hgr⟩ : ∃ gr, gr = w1.heap.size := ⟨_, rfl⟩
    have HGR : Hid (w.heap.size ≤ gr) := hide (by rw [hgr]; exact HB1.out.size)
    have HB2 : Hid (Below w.heap.size w w2) := hide (by rw [hw2]; exact bl_alloc HB1.out _)
    have HP2 : Hid (Blk w2 gr [.string T1, .int .i64 0, .int .i64 0, .slice none 0 0] 76) := hide (by rw [hw2, hgr]; exact Blk.new w1 _ _)
    have HR2 : Hid (RdB w2 gx vA (.slice ta 1 tc) vX (.slice none 0 0) (.slice (some ⟨gO, 0, none⟩) 1 cO) true) := hide (Blk.below HR.out HB2.out)
    rw [← hw2, ← hgr]
    clear hw2 hgr
    have p1 := HP2.out.cell (k := 1) rfl
    have r1 := Blk.cell HR2.out (k := 1) rfl
    go_quiet (fail)
    have p2 := HP2.out.cell (k := 2) rfl
    have fp2 := HP2.out.fr 2
    have HB3 : Hid (Below w.heap.size w ((w2.drewN nq).setCell ⟨gr, 2, none⟩ (.int .i64 1))) := hide (bl_set (bl_drewN HB2.out nq) (p := ⟨gr, 2, none⟩) HGR.out _)
    have HP3 : Hid (Blk ((w2.drewN nq).setCell ⟨gr, 2, none⟩ (.int .i64 1)) gr [.string T1, .int .i64 0, .int .i64 1, .slice none 0 0] 76) := hide (Blk.set (w := w2.drewN nq) HP2.out 2 (.int .i64 1))
    go_wp2_with fail
    clear p1 p2 r1 fp2
    obtain ⟨w3, hw3⟩ : ∃ w3, w3 = (w2.drewN nq).setCell ⟨gr, 2, none⟩ (.int .i64 1) := ⟨_, rfl⟩
    rw [← hw3] at HB3 HP3 ⊢
    clear hw3
    have HR3 : Hid (RdB w3 gx vA (.slice ta 1 tc) vX (.slice none 0 0) (.slice (some ⟨gO, 0, none⟩) 1 cO) true) := hide (Blk.below HR.out HB3.out)
    have HSZ := hide (show gx + 1 ≤ w3.heap.size by have := HB3.out.size; omega)
    refine wp_region_K 9 (by kernel_rfl) (by kernel_rfl) (fun Q HQ => ?_)
    simp only [List.take_succ_cons, List.take_zero, List.map_cons, List.map_nil]
    repeat
      first
      | (refine wpS_skip (b := true) rfl (guard_mk rfl rfl) ?_)
      | (refine wpS_skip (b := false) rfl (guard_mk rfl rfl) ?_)
      | (refine wpS_skipU rfl (guardU_mk rfl rfl) ?_)
      | (first | apply wpS_c rfl | apply wpS_gc rfl (guard_mk rfl rfl)
         focus
           intro ev wx hC hx
           (try simp [Op.operands, Call.operands, opndS, Slot.holds] at hx)
           have r3 := hC.cell (Blk.cell HR3.out (k := 3) rfl)
           have t0 := hC.cell (HP3.out.cell (k := 0) rfl)
           have t1 := hC.cell (HP3.out.cell (k := 1) rfl)
           have t2 := hC.cell (HP3.out.cell (k := 2) rfl)
           have t3 := hC.cell (HP3.out.cell (k := 3) rfl)
           go_simp
           try (first | exact rfl | exact ⟨Below.refl _ _, rfl⟩)
           done)
      dsimp only [setS, List.set]
    refine wpS_p (R := LitS 76 [.string T1, .int .i64 0, .int .i64 1, .slice none 0 0]) rfl (stab_lit _ _) ?_ ?_
    focus
      intro ev wx hC hx
      (try simp [Op.operands, Call.operands, opndS, Slot.holds] at hx)
      go_simp
      exact ⟨bl_alloc (bl_refl wx) _, wx.heap.size, rfl, Blk.new wx _ _⟩
    dsimp only [setS, List.set]
    refine wpS_p rfl (stab_freshS (gx + 1) 76 4 1 [.string T1, .int .i64 0, .int .i64 1, .slice none 0 0]) (opS_append_lit (.tmp 65) (.tmp 67) 25 rfl (gx + 1) 76 76 i2 _ 4 56 Tryz.underlying25 hi2 hz0 hz1 hz2 rfl (by decide) [.string T1, .int .i64 0, .int .i64 1, .slice none 0 0] rfl (by intro u hu; simp at hu; rcases hu with rfl | rfl | rfl | rfl <;> rfl) rfl rfl (fun wx hC => by have := hC.below.size; have := HSZ.out; omega) (by decide)) ?_
    dsimp only [setS, List.set]
    refine wpS_nil (HQ _ fun w4 hC4 => ?_)
    simp only [closeS, List.drop_succ_cons, List.drop_zero, List.drop_nil]
    rintro - - v74 ⟨-, ho4⟩
    obtain ⟨gt, ct, hv, _, hgb, hgl⟩ := ownG_pos ho4 (by omega)
    subst hv
    have HB4 := hide (HB3.out.trans (hC4.below.mono HB3.out.size))
    have HR4 : Hid (RdB w4 gx vA (.slice ta 1 tc) vX (.slice none 0 0) (.slice (some ⟨gO, 0, none⟩) 1 cO) true) := hide (Blk.below HR.out HB4.out)
    have HO4 := hide ho4
    clear HQ hC4 ho4 hgb hgl
    have r3 := Blk.cell HR4.out (k := 3) rfl
    have f3 := Blk.fr HR4.out 3
    have HR5 : Hid (RdB (w4.setCell ⟨gx, 3, none⟩ (.slice (some ⟨gt, 0, none⟩) 1 ct)) gx vA (.slice ta 1 tc) vX (.slice (some ⟨gt, 0, none⟩) 1 ct) (.slice (some ⟨gO, 0, none⟩) 1 cO) true) := hide (Blk.set HR4.out 3 _)
    have HO5 := hide (ownG_setlt HO4.out (g := gx) (by omega) 3 (.slice (some ⟨gt, 0, none⟩) 1 ct))
    have HG5 := hide ((KG.of (g := gx) HB4.out).setCell 3 (.slice (some ⟨gt, 0, none⟩) 1 ct))
    go_wp2_with fail
    clear r3 f3
    obtain ⟨w5, hw5⟩ : ∃ w5, w5 = w4.setCell ⟨gx, 3, none⟩ (.slice (some ⟨gt, 0, none⟩) 1 ct) := ⟨_, rfl⟩
    rw [← hw5] at HR5 HO5 HG5 ⊢
    clear hw5
    have hcO1 : (1 : Int) ≤ (cO : Int) := by have := HLO.out.1; omega
    have hw1 : IntKind.i64.wrap 1 = 1 := wrap_ok (by omega) (by omega)
    have hap := HAP.out
    by_cases hc1 : cO = 1
    · subst hc1
      refine wp_region_K 15 (by kernel_rfl) (by kernel_rfl) (fun Q HQ => ?_)
      simp only [List.take_succ_cons, List.take_zero, List.map_cons, List.map_nil]
      repeat
        first
        | (refine wpS_skip (b := true) rfl (guard_mk rfl rfl) ?_)
        | (refine wpS_skip (b := false) rfl (guard_mk rfl rfl) ?_)
        | (refine wpS_skipU rfl (guardU_mk rfl rfl) ?_)
        | (first | apply wpS_c rfl | apply wpS_gc rfl (guard_mk rfl rfl)
           focus
             intro ev wx hC hx
             (try simp [Op.operands, Call.operands, opndS, Slot.holds] at hx)
             have r7 := hC.cell (Blk.cell HR5.out (k := 7) rfl)
             go_simp
             try (first | exact rfl | exact ⟨Below.refl _ _, rfl⟩)
             done)
        dsimp only [setS, List.set]
      refine wpS_nil (HQ _ fun w6 hC6 => ?_)
      simp only [closeS, List.drop_succ_cons, List.drop_zero, List.drop_nil]
      have HR6 : Hid (RdB w6 gx vA (.slice ta 1 tc) vX (.slice (some ⟨gt, 0, none⟩) 1 ct) (.slice (some ⟨gO, 0, none⟩) 1 1) true) := hide (Blk.below HR5.out hC6.below)
      have HO6 := hide (ownG_below HO5.out hC6.below)
      have HG6 := hide (HG5.out.trans (.of hC6.below))
      clear HQ hC6 hap hw1 hw0
      have r7 := Blk.cell HR6.out (k := 7) rfl
      have f7 := Blk.fr HR6.out 7
      have HR7 : Hid (RdB (w6.setCell ⟨gx, 7, none⟩ (.slice (some ⟨gO, 0, none⟩) 0 1)) gx vA (.slice ta 1 tc) vX (.slice (some ⟨gt, 0, none⟩) 1 ct) (.slice (some ⟨gO, 0, none⟩) 0 1) true) := hide (Blk.set HR6.out 7 _)
      have HO7 := hide (ownG_setlt HO6.out (g := gx) (by omega) 7 (.slice (some ⟨gO, 0, none⟩) 0 1))
      have HG7 := hide (HG6.out.setCell 7 (.slice (some ⟨gO, 0, none⟩) 0 1))
      go_wp2
      go_ret
      exact ⟨rfl, HG7.out, _, _, _, HR7.out, by show World.ownsRow _ _ _ 4 _ 1 [.string (bstr [115]), iv 0, iv 1, .slice none 0 0]; rw [← HT1x.out]; exact HO7.out⟩
    · have hc1' : ¬ (cO : Int) = 1 := by omega
      refine wp_region_K 15 (by kernel_rfl) (by kernel_rfl) (fun Q HQ => ?_)
      simp only [List.take_succ_cons, List.take_zero, List.map_cons, List.map_nil]
      repeat
        first
        | (refine wpS_skip (b := true) rfl (guard_mk rfl rfl) ?_)
        | (refine wpS_skip (b := false) rfl (guard_mk rfl rfl) ?_)
        | (refine wpS_skipU rfl (guardU_mk rfl rfl) ?_)
        | (first | apply wpS_c rfl | apply wpS_gc rfl (guard_mk rfl rfl)
           focus
             intro ev wx hC hx
             (try simp [Op.operands, Call.operands, opndS, Slot.holds] at hx)
             have r7 := hC.cell (Blk.cell HR5.out (k := 7) rfl)
             go_simp
             try (first | exact rfl | exact ⟨Below.refl _ _, rfl⟩)
             done)
        dsimp only [setS, List.set]
      refine wpS_nil (HQ _ fun w6 hC6 => ?_)
      simp only [closeS, List.drop_succ_cons, List.drop_zero, List.drop_nil]
      have HR6 : Hid (RdB w6 gx vA (.slice ta 1 tc) vX (.slice (some ⟨gt, 0, none⟩) 1 ct) (.slice (some ⟨gO, 0, none⟩) 1 cO) true) := hide (Blk.below HR5.out hC6.below)
      have HO6 := hide (ownG_below HO5.out hC6.below)
      have HG6 := hide (HG5.out.trans (.of hC6.below))
      clear HQ hC6 hap hw1 hw0
      have r7 := Blk.cell HR6.out (k := 7) rfl
      have f7 := Blk.fr HR6.out 7
      have HR7 : Hid (RdB (w6.setCell ⟨gx, 7, none⟩ (.slice (some ⟨gO, 0, none⟩) 0 cO)) gx vA (.slice ta 1 tc) vX (.slice (some ⟨gt, 0, none⟩) 1 ct) (.slice (some ⟨gO, 0, none⟩) 0 cO) true) := hide (Blk.set HR6.out 7 _)
      have HO7 := hide (ownG_setlt HO6.out (g := gx) (by omega) 7 (.slice (some ⟨gO, 0, none⟩) 0 cO))
      have HG7 := hide (HG6.out.setCell 7 (.slice (some ⟨gO, 0, none⟩) 0 cO))
      go_wp2
      go_ret
      exact ⟨rfl, HG7.out, _, _, _, HR7.out, by show World.ownsRow _ _ _ 4 _ 1 [.string (bstr [115]), iv 0, iv 1, .slice none 0 0]; rw [← HT1x.out]; exact HO7.out⟩
end Go.Proofs.YtbpkclopcoaikaaGreatDoor
