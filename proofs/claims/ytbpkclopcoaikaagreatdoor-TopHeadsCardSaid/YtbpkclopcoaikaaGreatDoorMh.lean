/- The walk of the reader's token, at a line of one plain byte. The walk of the reader's line: a token, or a tag. The walk of the reader's line at a token. The walks of the program's parts of Validate: attributes at one attribute; tokens of one value; nodes and heads at none. -/
import Derived.Test.YtbpkclopcoaikaaGreatDoorVShm
import Derived.Test.YtbpkclopcoaikaaGreatDoorMg
import Derived.Laws.EntriesVeiled
import Derived.Test.YtbpkclopcoaikaaGreatDoorMe
import Derived.Test.YtbpkclopcoaikaaGreatDoorUNm
import Derived.Test.YtbpkclopcoaikaaGreatDoorMd
import Derived.Test.YtbpkclopcoaikaaGreatDoorMc
namespace Go.Proofs.YtbpkclopcoaikaaGreatDoor
open Go.RowKit
set_option linter.unusedVariables false
set_option linter.unusedSimpArgs false
theorem info_strs : (Tryz.prog.info? 28).map (fun i => (i.zero, i.size, i.bytes)) = some (some (.slice none 0 0), 1, 24) := by kernel_rfl
theorem info_strV : (Tryz.prog.info? 9).map (fun i => (i.zero, i.size, i.bytes)) = some (some (.string ⟨#[]⟩), 1, 16) := by kernel_rfl
set_option maxRecDepth 100000 in
theorem eov_any (S : ByteArray) (c : UInt8) (hc : PlainB c) (w : World) : Calls Tryz.prog 94 #[.agg #[.string S, .bool false], .string (bstr [c])] w fun e w' => e = .returned (.int .i64 0) ∧ Below w.heap.size w w' := by
  have HV := hide (fun wx => mvalue_any c hc wx)
  have HB := hide (bl_alloc (bl_refl w) (.cells #[.string S, .bool false] 71 (0, 0)))
  generalize bstr [c] = C at *
  go_enter Tryz.func94, Tryz.ntmps94
  go_wp2_with fail
  refine (HV.out _).mono ?_
  rintro e w1 ⟨rfl, hb⟩
  have HB1 := hide (HB.out.trans (hb.mono HB.out.size))
  clear hb
  go_wp2
  go_ret
  exact ⟨rfl, HB1.out⟩
/-- The tokens' rows. -/
def TokR (w : World) (B : Nat) (vT : Value) (toks : List UInt8) : Prop := ∃ ts : List Value, w.ownsRow B 28 1 vT toks.length ts ∧ ∀ (i : Nat) (c : UInt8), toks[i]? = some c → ∃ v, ts[i]? = some v ∧ w.ownsRow B 9 1 v 1 [.string (bstr [c])]
def TkP (gx : Nat) (vA vX vR vO : Value) (toks : List UInt8) (w : World) (e : Ending) (w' : World) : Prop := e = .returned (.agg #[.int .i64 0, .int .i64 0]) ∧ KR gx 28 w w' ∧ ∃ vT, RdB w' gx vA vT vX vR vO true ∧ TokR w' (gx + 1) vT toks
set_option maxHeartbeats 16000000 in
set_option maxRecDepth 100000 in
theorem tok_any (gx : Nat) (vT vX vR vO : Value) (aA : Option Addr) (cA : Nat) (AT : ByteArray) (toks : List UInt8) (c : UInt8) (w : World) (hm : MaxL w) (h0 : 0 < gx) (h : RdB w gx (.slice aA 1 cA) vT vX vR vO true) (hA : Rd w aA [.string AT, .bool false]) (hT : TokR w (gx + 1) vT toks) (htl : toks.length ≤ 10) (hc : PlainB c) (hcs : Lib.countB (bstr [c]) (bstr [9]) = 0) : Calls Tryz.prog 63 #[.pointer (some ⟨gx, 0, none⟩), .string (bstr [c])] w (TkP gx (.slice aA 1 cA) vX vR vO (toks ++ [c]) w) := by
  obtain ⟨i2, hi2, hz0, hz1, hz2⟩ := info_parts info_strs
  obtain ⟨i3, hi3, hy0, hy1, hy2⟩ := info_parts info_strV
  obtain ⟨ts, hT1, hT2⟩ := hT
  obtain ⟨tn, htn⟩ : ∃ tn, tn = toks.length := ⟨_, rfl⟩
  rw [← htn] at hT1 htl
  obtain ⟨ta, tc, hv, htc, -⟩ := ownG_form hT1
  subst hv
  have HTN := hide htn
  have HT1 := hide hT1
  have HT2 := hide hT2
  have HR := hide h
  have HA := hide hA
  have HM := hide hm
  have hgx := Blk.lt h
  have HSP : Hid (∀ wx, MaxL wx → Calls Tryz.prog 92 #[.string (bstr [c]), .string ⟨#[9]⟩] wx fun e w' => e = .returned (.slice (some ⟨wx.heap.size, 0, none⟩) 1 1) ∧ w' = wx.alloc (.cells #[.string (bstr [c])] 9 (0, 0))) := hide (fun wx hx => split1_any c wx hx hcs)
  have HUN : Hid (∀ wx, Calls Tryz.prog 93 #[.string (bstr [c])] wx fun e w' => e = .returned (.tuple #[.string (bstr [c]), .int .i64 0, .int .i64 0]) ∧ Below wx.heap.size wx w') := hide (fun wx => unesc_any c hc wx)
  have HEV : Hid (∀ wx, Calls Tryz.prog 94 #[.agg #[.string AT, .bool false], .string (bstr [c])] wx fun e w' => e = .returned (.int .i64 0) ∧ Below wx.heap.size wx w') := hide (fun wx => eov_any AT c hc wx)
  obtain ⟨C, hC⟩ : ∃ C, C = bstr [c] := ⟨_, rfl⟩
  have HCS : Hid ((C.size : Int) = 1) := hide (by rw [hC]; rfl)
  rw [← hC] at HSP HUN HEV ⊢
  have HC := hide hC
  obtain ⟨n0, hn0⟩ : ∃ n0, n0 = w.heap.size := ⟨_, rfl⟩
  have HN0 := hide hn0
  obtain ⟨W0, hW0⟩ : ∃ W0, W0 = (w.alloc (.cells #[.int .i64 0, .int .i64 0] 97 (0, 0))).alloc (.cells #[.string C] 9 (0, 0)) := ⟨_, rfl⟩
  have HW := hide hW0
  have HB0 : Hid (Below w.heap.size w W0) := hide (by rw [hW0]; exact bl_alloc (bl_alloc (bl_refl w) _) _)
  have HF0 : Hid (Blk W0 n0 [.int .i64 0, .int .i64 0] 97) := hide (by rw [hW0, hn0]; exact (Blk.new w _ _).alloc _)
  have HP0 : Hid (Blk W0 (n0 + 1) [.string C] 9) := hide (by rw [hW0]; exact Blk.newG (by simp [hn0]) _ _)
  have r0 := Blk.cell HR.out (k := 0) rfl
  have r1 := Blk.cell HR.out (k := 1) rfl
  have r8 := Blk.cell HR.out (k := 8) rfl
  have ht4 : ((tn : Int) == 4096) = false := by rw [beq_eq_false_iff_ne]; omega
  clear h hA hm hT1 hT2 htn hC hW0 hn0 hcs hc
  go_enter Tryz.func63, Tryz.ntmps63
  go_wp2_with fail
  refine (HSP.out _ (HM.out.below (bl_alloc (bl_refl w) _))).mono ?_
  rintro e w' ⟨rfl, rfl⟩
  go_wp2_with fail
  rw [← HW.out, ← HN0.out]
  clear r0 r1 r8
  go_loopw [5, 6, 32] (fun vv av kv wr => Hid (vv = .slice none 0 0 ∧ av = .int .i64 0 ∧ kv = .int .i64 0 ∧ wr = W0 ∨ wr.ownsRow (n0 + 1) 9 1 vv 1 [.string C] ∧ av = .int .i64 2 ∧ kv = .int .i64 1 ∧ Below w.heap.size w wr ∧ Blk wr n0 [.int .i64 0, .int .i64 0] 97)) (fun _ _ kv _ => 1 - (intOf kv).toNat)
  case atStart => exact hide (.inl ⟨rfl, rfl, rfl, rfl⟩)
  case round =>
    rcases hrel.out with ⟨rfl, rfl, rfl, hww⟩ | ⟨hv, rfl, rfl, hb, hf⟩
    · obtain rfl : W0 = wr := hww.symm
      have p0 := HP0.out.cell (k := 0) rfl
      have r0 := Blk.cell (Blk.below HR.out HB0.out) (k := 0) rfl
      go_wp2_with fail
      clear p0 r0 hww hrel
      refine (HUN.out _).mono ?_
      rintro e w1 ⟨rfl, hb1⟩
      have HB1 := hide (HB0.out.trans (hb1.mono HB0.out.size))
      have HF1 := hide (HF0.out.below hb1)
      have r0 := Blk.cell (Blk.below HR.out HB1.out) (k := 0) rfl
      obtain ⟨ba, oa, haa, hba, hca⟩ := (HA.out.below HB1.out).open_ (by simp)
      subst haa
      have a0 := hca 0 _ rfl
      have a1 := hca 1 _ rfl
      simp only [Nat.add_zero] at a0
      clear hb1 hca hba
      go_wp2_with fail
      refine (HEV.out _).mono ?_
      rintro e w2 ⟨rfl, hb2⟩
      have HB2 := hide (HB1.out.trans (hb2.mono HB1.out.size))
      have HF2 := hide (HF1.out.below hb2)
      clear hb2 r0 a0 a1
      have HRL := hide (rd_lit w2 #[.string C] 9 (0, 0))
      have HBA := hide (bl_alloc HB2.out (.cells #[.string C] 9 (0, 0)))
      have HFA := hide (HF2.out.alloc (.cells #[.string C] 9 (0, 0)))
      have HSA := hide (show n0 + 1 ≤ (w2.alloc (.cells #[.string C] 9 (0, 0))).heap.size by have := HF2.out.lt; simp; omega)
      have hcs := HCS.out
      go_wp2_with (at_builtin; go_loud (refine wpList_append_rd _ rfl (.tmp 76) (.tmp 78) 28 rfl (n0 + 1) 9 i3 _ 1 16 Tryz.underlying28 hi3 hy0 hy1 hy2 rfl (by decide) (.slice none 0 0) 0 [] rfl (World.ownsRow_nil _ _ _ _) (some ⟨w2.heap.size, 0, none⟩) 1 1 [.string C] rfl rfl HRL.out (by intro u hu; simp at hu; subst hu; rfl) (by simp only [maxLen]; omega) (by omega) HSA.out ?_; intro v2 w3 hown hg1 hat1; obtain ⟨g3, c3, hv, hcc, hgb, hgl⟩ := ownG_pos hown (by omega); subst hv; have HB3 := hide (bl_grown HBA.out hg1 (fun k hk => by cases hk)); have HF3 := hide (Blk.grown HFA.out hg1 (by simp [Value.ownBlock])); have HO3 := hide hown; clear hown hg1 hat1 hcc hgb hgl))
      go_roundw
      case rel => exact hide (.inr ⟨HO3.out, rfl, rfl, HB3.out, HF3.out⟩)
      case measure => simp [intOf]
    · have HV := hide hv
      have HB := hide hb
      have HF := hide hf
      obtain ⟨g3, c3, hvv, -, hg3, hl3⟩ := ownG_pos hv (by omega)
      subst hvv
      have HRw : Hid (RdB wr gx (.slice aA 1 cA) (.slice ta tn tc) vX vR vO true) := hide (Blk.below HR.out hb)
      have HTw := hide (ownG_below HT1.out hb)
      clear hv hb hf hrel hl3
      have r0 := Blk.cell HRw.out (k := 0) rfl
      have r1 := Blk.cell HRw.out (k := 1) rfl
      have HRL := hide (rd_lit wr #[.slice (some ⟨g3, 0, none⟩) 1 c3] 28 (0, 0))
      have HBA := hide (bl_alloc HB.out (.cells #[.slice (some ⟨g3, 0, none⟩) 1 c3] 28 (0, 0)))
      have HTA := hide (ownG_below HTw.out (bl_alloc (bl_refl wr) (.cells #[.slice (some ⟨g3, 0, none⟩) 1 c3] 28 (0, 0))))
      have HVA := hide (ownG_below HV.out (bl_alloc (bl_refl wr) (.cells #[.slice (some ⟨g3, 0, none⟩) 1 c3] 28 (0, 0))))
      have HSA := hide (show gx + 1 ≤ (wr.alloc (.cells #[.slice (some ⟨g3, 0, none⟩) 1 c3] 28 (0, 0))).heap.size by have := HB.out.size; simp; omega)
      go_wp2_with (at_builtin; go_loud (refine wpList_append_rd _ rfl (.tmp 103) (.tmp 105) 23 rfl (gx + 1) 28 i2 _ 1 24 Tryz.underlying23 hi2 hz0 hz1 hz2 rfl (by decide) (.slice ta tn tc) tn ts rfl HTA.out (some ⟨wr.heap.size, 0, none⟩) 1 1 [.slice (some ⟨g3, 0, none⟩) 1 c3] rfl rfl HRL.out (by intro u hu; simp at hu; subst hu; rfl) (by simp only [maxLen]; omega) (by omega) HSA.out ?_; intro v2 w3 hown hg1 hat1; obtain ⟨gT, cT, hv, hcc, hgb, hgl⟩ := ownG_pos hown (by omega); subst hv; have HG3 := hide hg1; have HO3 := hide hown; have HR3 : Hid (RdB w3 gx (.slice aA 1 cA) (.slice ta tn tc) vX vR vO true) := hide (Blk.grown (Blk.below HRw.out (bl_alloc (bl_refl wr) _)) hg1 (fun e => by obtain h := (ownG_lt HTA.out e).1; omega)); have q1 := Blk.cell HR3.out (k := 1) rfl; have f1 := Blk.fr HR3.out 1; have HF3 := hide (Blk.setne (Blk.grown (HF.out.alloc _) hg1 (fun e => by have := (ownG_lt HT1.out e).2; have := HN0.out; omega)) (show n0 ≠ gx by have := HN0.out; omega) 1 (.slice (some ⟨gT, 0, none⟩) (tn + 1) cT)); have m0 := HF3.out.cell (k := 0) rfl; have m1 := HF3.out.cell (k := 1) rfl; have e0 := HF3.out.fr 0; have e1 := HF3.out.fr 1; have HF4 := hide ((HF3.out.set 0 (.int .i64 0)).set 1 (.int .i64 0)); have m2 := HF4.out.cell (k := 0) rfl; have m3 := HF4.out.cell (k := 1) rfl; have HNE := hide (show gT ≠ n0 by rcases hat1 with h | h; (· have hlt : gT < w.heap.size := (ownG_lt HT1.out h.symm).2; have := HN0.out; omega); (· have h1 := HF.out.lt; simp [Value.ownBlock] at h; omega)); clear hown hg1 hat1 hcc hgb hgl r0 r1))
      have HN1 := hide (show gx < n0 by have := HN0.out; omega)
      have hkeep : ∀ (b' : Nat) (T' : TypeId) (s' : Nat) (v' : Value) (n' : Nat) (xs' : List Value), gx < b' → T' ≠ 28 → wr.ownsRow b' T' s' v' n' xs' → v'.ownBlock ≠ some n0 → (((w3.setCell ⟨gx, 1, none⟩ (.slice (some ⟨gT, 0, none⟩) (tn + 1) cT)).setCell ⟨n0, 0, none⟩ (.int .i64 0)).setCell ⟨n0, 1, none⟩ (.int .i64 0)).ownsRow b' T' s' v' n' xs' := fun b' T' s' v' n' xs' hb' hT' hown hne => by
        have h1 := ownG_below hown (bl_alloc (bl_refl wr) (.cells #[.slice (some ⟨g3, 0, none⟩) 1 c3] 28 (0, 0)))
        have h2 := ownG_grown h1 HG3.out (fun q hq e => own_ty_apart h1 HTA.out hT' q hq e)
        exact ownG_setne (ownG_setne (ownG_setlt h2 hb' 1 _) hne 0 _) hne 1 _
      have hold : ∀ (b' : Nat) (T' : TypeId) (s' : Nat) (v' : Value) (n' : Nat) (xs' : List Value), gx < b' → T' ≠ 28 → w.ownsRow b' T' s' v' n' xs' → (((w3.setCell ⟨gx, 1, none⟩ (.slice (some ⟨gT, 0, none⟩) (tn + 1) cT)).setCell ⟨n0, 0, none⟩ (.int .i64 0)).setCell ⟨n0, 1, none⟩ (.int .i64 0)).ownsRow b' T' s' v' n' xs' := fun b' T' s' v' n' xs' hb' hT' hown =>
        hkeep b' T' s' v' n' xs' hb' hT' (ownG_below hown HB.out) (fun e => by have := (ownG_lt hown e).2; have := HN0.out; omega)
      refine bodyPost_ret (v := .agg #[.int .i64 0, .int .i64 0]) (by simp [results, Tryz.results63, go_sem, m2, m3]) rfl ⟨rfl, ⟨?_, hold⟩, .slice (some ⟨gT, 0, none⟩) (tn + 1) cT, ?_, ?_⟩
      · have h1 : Below gx w w3 := (HBA.out.mono (Nat.le_of_lt hgx)).grown HG3.out (by have := HSA.out; omega) (fun k hk => by have := (ownG_lt HTA.out hk).1; omega)
        exact ((h1.setCell (p := ⟨gx, 1, none⟩) (Nat.le_refl _) _).setCell (p := ⟨n0, 0, none⟩) (Nat.le_of_lt HN1.out) _).setCell (p := ⟨n0, 1, none⟩) (Nat.le_of_lt HN1.out) _
      · exact Blk.setne (Blk.setne (Blk.set HR3.out 1 _) (by have := HN1.out; omega) 0 _) (by have := HN1.out; omega) 1 _
      · refine ⟨ts ++ [.slice (some ⟨g3, 0, none⟩) 1 c3], ?_, ?_⟩
        · rw [List.length_append, List.length_singleton, ← HTN.out]
          exact ownG_setne (ownG_setne (ownG_setlt HO3.out (g := gx) (by omega) 1 _) (by simp only [Value.ownBlock]; intro e; injection e with e; exact HNE.out e) 0 _) (by simp only [Value.ownBlock]; intro e; injection e with e; exact HNE.out e) 1 _
        · intro i c' hi
          have htsl : ts.length = toks.length := by have := HT1.out.1; rw [Nat.mul_one] at this; rw [this, HTN.out]
          rcases Nat.lt_or_ge i toks.length with hlt | hge
          · rw [List.getElem?_append_left hlt] at hi
            obtain ⟨v, hv1, hv2⟩ := HT2.out i c' hi
            exact ⟨v, by rw [List.getElem?_append_left (by omega)]; exact hv1, hold _ _ _ _ _ _ (by omega) (by decide) hv2⟩
          · have hil : i = toks.length := by have := (List.getElem?_eq_some_iff.1 hi).1; rw [List.length_append, List.length_singleton] at this; omega
            subst hil
            rw [List.getElem?_append_right (Nat.le_refl _), Nat.sub_self] at hi
            have hi : c = c' := by simpa using hi
            subst hi
            refine ⟨_, by rw [List.getElem?_append_right (by omega), htsl, Nat.sub_self]; rfl, ?_⟩
            rw [← HC.out]
            exact hkeep _ _ _ _ _ _ (by omega) (by decide) (ownG_mono HV.out (by have := HN1.out; omega)) (fun e => by have := (ownG_lt HV.out e).1; omega)
end Go.Proofs.YtbpkclopcoaikaaGreatDoor
namespace Go.Proofs.YtbpkclopcoaikaaGreatDoor
open Go.RowKit
set_option linter.unusedVariables false
set_option linter.unusedSimpArgs false
theorem blk_own {w : World} {g n size : Nat} {cs : List Value} {T : TypeId} (h : Blk w g cs T) (hl : cs.length = n * size) (hm : n ≤ maxLen) : w.ownsRow g T size (.slice (some ⟨g, 0, none⟩) n n) n cs :=
  ⟨hl, .inr ⟨g, n, cs.toArray, rfl, Nat.le_refl _, h, Nat.le_refl _, hm, by simpa using hl, by simp [← hl]⟩⟩
theorem own_blk {w : World} {b g n size : Nat} {cs : List Value} {T : TypeId} (h : w.ownsRow b T size (.slice (some ⟨g, 0, none⟩) n n) n cs) : Blk w g cs T := by
  rcases h.2 with ⟨h1, _⟩ | ⟨g', cap, cur, h1, hb, hg, hn, _, hs, ht⟩
  · cases h1
  · injection h1 with h1 h2 h3
    injection h1 with h1
    injection h1 with h1
    subst h1 h3
    unfold Blk
    rw [hg, ← ht, List.take_of_length_le (by simp [hs])]
theorem Blk.kr {w w' : World} {gx k : Nat} {e T : TypeId} {cs : List Value} (h : Blk w k cs T) (hg : KR gx e w w') (hk : gx < k) (hT : T ≠ e) (hm : cs.length ≤ maxLen) : Blk w' k cs T :=
  own_blk (hg.r k T 1 _ _ _ hk hT (blk_own h (by simp) hm))
theorem KR.of {g : Nat} {e : TypeId} {w w' : World} (h : Below w.heap.size w w') (hg : g ≤ w.heap.size) : KR g e w w' := ⟨h.mono hg, fun _ _ _ _ _ _ _ _ ho => ownG_below ho h⟩
theorem KR.trans {g : Nat} {e : TypeId} {a b c : World} (h : KR g e a b) (k : KR g e b c) : KR g e a c := ⟨h.b.trans k.b, fun b' T' s' v' n' xs' h1 h2 ho => k.r b' T' s' v' n' xs' h1 h2 (h.r b' T' s' v' n' xs' h1 h2 ho)⟩
theorem KR.kg {g : Nat} (e : TypeId) {w w' : World} (h : KG g w w') (hg : g ≤ w.heap.size) : KR g e w w' := ⟨h.below (Nat.le_refl _) hg, fun b' T' s' v' n' xs' h1 h2 ho => own_kg ho h (fun e => by have := (ownG_lt ho e).1; omega)⟩
def fnOf : Bool → Bool → FuncId
  | false, false => 65
  | true, false => 66
  | false, true => 67
  | true, true => 68
def LnP (gx : Nat) (ety : TypeId) (Q : World → Prop) (w : World) (e : Ending) (w' : World) : Prop := e = .returned (.agg #[.int .i64 0, .int .i64 0]) ∧ KR gx ety w w' ∧ Q w'
set_option maxHeartbeats 16000000 in
set_option maxRecDepth 100000 in
theorem lineT_any (gx : Nat) (ety : TypeId) (he : ety ≠ 97) (l nl : List UInt8) (b tx : Bool) (ks : Option (ByteArray × ByteArray)) (Q : World → Prop) (w : World) (hgx : gx < w.heap.size) (ht : TagHas l b (bstr nl) ks) (hp : Lib.hasPrefix l [60] = true) (htx : (nl == [116, 101, 120, 116]) = tx)
    (hc : ∀ v wx, Below w.heap.size w wx → KeysP w.heap.size ks v wx → Calls Tryz.prog (fnOf b tx) #[.pointer (some ⟨gx, 0, none⟩), .agg #[.bool b, .string (bstr nl), v]] wx fun e w' => e = .returned (.int .i64 0) ∧ KR gx ety wx w' ∧ Q w')
    (hq : ∀ (n0 : Nat) (k : Nat) (u : Value) (cs : List Value) (wx : World), gx < n0 → Blk wx n0 cs 97 → Q wx → Q (wx.setCell ⟨n0, k, none⟩ u)) :
    Calls Tryz.prog 40 #[.pointer (some ⟨gx, 0, none⟩), .string (bstr l)] w (LnP gx ety Q w) := by
  have HPX : Hid (∀ wx, Calls Tryz.prog 62 #[.string (bstr l), .string ⟨#[60]⟩] wx fun e w' => e = .returned (.bool true) ∧ wx = w') := hide (fun wx => prefix_any l [60] wx true hp)
  have HPT : Hid (∀ wx, Calls Tryz.prog 64 #[.string (bstr l)] wx (PTagP b (bstr nl) ks wx)) := hide (fun wx => ptag_any l b (bstr nl) ks wx ht)
  have HCL := hide hc
  have HQ := hide hq
  have HTX := hide htx
  obtain ⟨S, hS⟩ : ∃ S, S = bstr l := ⟨_, rfl⟩
  rw [← hS] at HPX HPT ⊢
  obtain ⟨n0, hn0⟩ : ∃ n0, n0 = w.heap.size := ⟨_, rfl⟩
  have HN0 := hide hn0
  obtain ⟨W0, hW0⟩ : ∃ W0, W0 = w.alloc (.cells #[.int .i64 0, .int .i64 0] 97 (0, 0)) := ⟨_, rfl⟩
  have HW := hide hW0
  have HB0 : Hid (Below w.heap.size w W0) := hide (by rw [hW0]; exact bl_alloc (bl_refl w) _)
  have HF0 : Hid (Blk W0 n0 [.int .i64 0, .int .i64 0] 97) := hide (by rw [hW0, hn0]; exact Blk.new w _ _)
  clear ht hp hc hq hS hn0 hW0 htx
  go_enter Tryz.func40, Tryz.ntmps40
  go_wp2_with fail
  rw [← HW.out, ← HN0.out]
  refine (HPX.out _).mono ?_
  rintro e w' ⟨rfl, rfl⟩
  go_wp2_with fail
  refine (HPT.out _).mono ?_
  rintro e w1 ⟨v, rfl, hb1, hk1⟩
  have HB1 := hide (HB0.out.trans (hb1.mono HB0.out.size))
  have HF1 := hide (HF0.out.below hb1)
  have HK1 := hide (hk1.mono (B' := w.heap.size) HB0.out.size)
  obtain ⟨va, vn, vc, hv, -⟩ := hk1.form
  subst hv
  clear hb1 hk1
  obtain ⟨NM, hNM⟩ : ∃ NM, NM = bstr nl := ⟨_, rfl⟩
  have HNM := hide hNM
  rw [← hNM] at HCL ⊢
  have hnl : NM.toList = nl := by rw [hNM, bstr_toList]
  clear hNM
  obtain ⟨W2, hW2⟩ : ∃ W2, W2 = (w1.alloc (.cells #[.bool b, .string NM, .slice va vn vc] 114 (0, 0))).alloc (.cells #[.func (.func 65) #[] #[], .func (.func 66) #[] #[], .func (.func 67) #[] #[], .func (.func 68) #[] #[]] 119 (0, 0)) := ⟨_, rfl⟩
  have HW2 := hide hW2
  have HB2 : Hid (Below w.heap.size w W2) := hide (by rw [hW2]; exact bl_alloc (bl_alloc HB1.out _) _)
  have HX2 : Hid (Below w1.heap.size w1 W2) := hide (by rw [hW2]; exact bl_alloc (bl_alloc (bl_refl w1) _) _)
  obtain ⟨n1, hn1⟩ : ∃ n1, n1 = w1.heap.size := ⟨_, rfl⟩
  have HN1 := hide hn1
  have HT2 : Hid (Blk W2 n1 [.bool b, .string NM, .slice va vn vc] 114) := hide (by rw [hW2, hn1]; exact (Blk.new w1 _ _).alloc _)
  have HA2 : Hid (Blk W2 (n1 + 1) [.func (.func 65) #[] #[], .func (.func 66) #[] #[], .func (.func 67) #[] #[], .func (.func 68) #[] #[]] 119) := hide (by rw [hW2]; exact Blk.newG (by rw [World.size_alloc, hn1]) _ _)
  clear hW2 hn1
  obtain ⟨F0, hF0⟩ : ∃ F, F = (w1.alloc (.cells #[.bool b, .string NM, .slice va vn vc] 114 (0, 0))).alloc (.cells #[.nilFunc, .nilFunc, .nilFunc, .nilFunc] 119 (0, 0)) := ⟨_, rfl⟩
  have HFX : Hid (Blk ((w1.alloc (.cells #[.bool b, .string NM, .slice va vn vc] 114 (0, 0))).alloc (.cells #[.nilFunc, .nilFunc, .nilFunc, .nilFunc] 119 (0, 0))) (w1.heap.size + 1) [.nilFunc, .nilFunc, .nilFunc, .nilFunc] 119) := hide (Blk.newG (by simp) _ _)
  have HFY := hide (HFX.out.set 0 (.func (.func 65) #[] #[]))
  have HFZ := hide (HFY.out.set 1 (.func (.func 66) #[] #[]))
  have HFW := hide (HFZ.out.set 2 (.func (.func 67) #[] #[]))
  have HFV := hide (HFW.out.set 3 (.func (.func 68) #[] #[]))
  have x0 := HFX.out.cell (k := 0) rfl
  have y0 := HFX.out.fr 0
  have x1 := HFY.out.cell (k := 1) rfl
  have y1 := HFY.out.fr 1
  have x2 := HFZ.out.cell (k := 2) rfl
  have y2 := HFZ.out.fr 2
  have x3 := HFW.out.cell (k := 3) rfl
  have y3 := HFW.out.fr 3
  clear hF0
  cases b
  · cases tx
    · skip
      have ht0 : (nl == [116, 101, 120, 116]) = false := HTX.out
      go_wp2_with fail
      rw [← HW2.out, ← HN1.out]
      refine wp_region_K 5 (by kernel_rfl) (by kernel_rfl) (fun Q HQQ => ?_)
      simp only [List.take_succ_cons, List.take_zero, List.map_cons, List.map_nil]
      repeat
        first
        | (refine wpS_skip (b := true) rfl (guard_mk rfl rfl) ?_)
        | (refine wpS_skip (b := false) rfl (guard_mk rfl rfl) ?_)
        | (refine wpS_skipU rfl (guardU_mk rfl rfl) ?_)
        | (first | apply wpS_c rfl | apply wpS_gc rfl (guard_mk rfl rfl)
           focus
             intro ev wx hC hx
             (try simp [Op.operands, Call.operands, opndS, Slot.holds] at hx)
             have z0 := hC.cell (HT2.out.cell (k := 0) rfl)
             have z1 := hC.cell (HT2.out.cell (k := 1) rfl)
             have z2 := hC.cell (HT2.out.cell (k := 2) rfl)
             have z3 := hC.cell (HA2.out.cell (k := 0) rfl)
             go_simp
             try (first | exact rfl | exact ⟨Below.refl _ _, rfl⟩)
             done)
        dsimp only [setS, List.set]
      refine wpS_nil (HQQ _ fun w3 hC3 => ?_)
      simp only [closeS, List.drop_succ_cons, List.drop_zero, List.drop_nil]
      have HB3 := hide (HB2.out.trans (hC3.below.mono HB2.out.size))
      have HF3 := hide (((HF1.out.below HX2.out)).below hC3.below)
      have HK3 := hide ((HK1.out.below HX2.out).below hC3.below)
      clear HQQ hC3 x0 x1 x2 x3 y0 y1 y2 y3
      go_wp2_with fail
      refine (HCL.out _ _ HB3.out HK3.out).mono ?_
      rintro e w4 ⟨rfl, hk4, hq4⟩
      have HR4 := hide ((KR.of HB3.out (Nat.le_of_lt hgx)).trans hk4)
      have HN := hide (show gx < n0 by have := HN0.out; omega)
      have HF4 := hide (HF3.out.kr hk4 HN.out (Ne.symm he) (by decide))
      have HQ5 := hide (HQ.out n0 1 (.int .i64 0) _ _ HN.out (HF4.out.set 0 (.int .i64 0)) (HQ.out n0 0 (.int .i64 0) _ _ HN.out HF4.out hq4))
      clear hk4 hq4
      have m0 := HF4.out.cell (k := 0) rfl
      have m1 := HF4.out.cell (k := 1) rfl
      have e0 := HF4.out.fr 0
      have e1 := HF4.out.fr 1
      have HF5 := hide ((HF4.out.set 0 (.int .i64 0)).set 1 (.int .i64 0))
      have m2 := HF5.out.cell (k := 0) rfl
      have m3 := HF5.out.cell (k := 1) rfl
      go_wp2
      refine bodyPost_ret (v := .agg #[.int .i64 0, .int .i64 0]) (by simp [results, Tryz.results40, go_sem, m2, m3]) rfl ⟨rfl, ⟨?_, ?_⟩, HQ5.out⟩
      · exact (HR4.out.b.setCell (p := ⟨n0, 0, none⟩) (Nat.le_of_lt HN.out) _).setCell (p := ⟨n0, 1, none⟩) (Nat.le_of_lt HN.out) _
      · intro b' T' s' v' n' xs' hb' hT' hown
        have hne : v'.ownBlock ≠ some n0 := fun e => by have := (ownG_lt hown e).2; have := HN0.out; omega
        exact ownG_setne (ownG_setne (HR4.out.r b' T' s' v' n' xs' hb' hT' hown) hne 0 _) hne 1 _
    · skip
      have ht0 : (nl == [116, 101, 120, 116]) = true := HTX.out
      go_wp2_with fail
      rw [← HW2.out, ← HN1.out]
      refine wp_region_K 5 (by kernel_rfl) (by kernel_rfl) (fun Q HQQ => ?_)
      simp only [List.take_succ_cons, List.take_zero, List.map_cons, List.map_nil]
      repeat
        first
        | (refine wpS_skip (b := true) rfl (guard_mk rfl rfl) ?_)
        | (refine wpS_skip (b := false) rfl (guard_mk rfl rfl) ?_)
        | (refine wpS_skipU rfl (guardU_mk rfl rfl) ?_)
        | (first | apply wpS_c rfl | apply wpS_gc rfl (guard_mk rfl rfl)
           focus
             intro ev wx hC hx
             (try simp [Op.operands, Call.operands, opndS, Slot.holds] at hx)
             have z0 := hC.cell (HT2.out.cell (k := 0) rfl)
             have z1 := hC.cell (HT2.out.cell (k := 1) rfl)
             have z2 := hC.cell (HT2.out.cell (k := 2) rfl)
             have z3 := hC.cell (HA2.out.cell (k := 2) rfl)
             go_simp
             try (first | exact rfl | exact ⟨Below.refl _ _, rfl⟩)
             done)
        dsimp only [setS, List.set]
      refine wpS_nil (HQQ _ fun w3 hC3 => ?_)
      simp only [closeS, List.drop_succ_cons, List.drop_zero, List.drop_nil]
      have HB3 := hide (HB2.out.trans (hC3.below.mono HB2.out.size))
      have HF3 := hide (((HF1.out.below HX2.out)).below hC3.below)
      have HK3 := hide ((HK1.out.below HX2.out).below hC3.below)
      clear HQQ hC3 x0 x1 x2 x3 y0 y1 y2 y3
      go_wp2_with fail
      refine (HCL.out _ _ HB3.out HK3.out).mono ?_
      rintro e w4 ⟨rfl, hk4, hq4⟩
      have HR4 := hide ((KR.of HB3.out (Nat.le_of_lt hgx)).trans hk4)
      have HN := hide (show gx < n0 by have := HN0.out; omega)
      have HF4 := hide (HF3.out.kr hk4 HN.out (Ne.symm he) (by decide))
      have HQ5 := hide (HQ.out n0 1 (.int .i64 0) _ _ HN.out (HF4.out.set 0 (.int .i64 0)) (HQ.out n0 0 (.int .i64 0) _ _ HN.out HF4.out hq4))
      clear hk4 hq4
      have m0 := HF4.out.cell (k := 0) rfl
      have m1 := HF4.out.cell (k := 1) rfl
      have e0 := HF4.out.fr 0
      have e1 := HF4.out.fr 1
      have HF5 := hide ((HF4.out.set 0 (.int .i64 0)).set 1 (.int .i64 0))
      have m2 := HF5.out.cell (k := 0) rfl
      have m3 := HF5.out.cell (k := 1) rfl
      go_wp2
      refine bodyPost_ret (v := .agg #[.int .i64 0, .int .i64 0]) (by simp [results, Tryz.results40, go_sem, m2, m3]) rfl ⟨rfl, ⟨?_, ?_⟩, HQ5.out⟩
      · exact (HR4.out.b.setCell (p := ⟨n0, 0, none⟩) (Nat.le_of_lt HN.out) _).setCell (p := ⟨n0, 1, none⟩) (Nat.le_of_lt HN.out) _
      · intro b' T' s' v' n' xs' hb' hT' hown
        have hne : v'.ownBlock ≠ some n0 := fun e => by have := (ownG_lt hown e).2; have := HN0.out; omega
        exact ownG_setne (ownG_setne (HR4.out.r b' T' s' v' n' xs' hb' hT' hown) hne 0 _) hne 1 _
  · cases tx
    · skip
      have ht0 : (nl == [116, 101, 120, 116]) = false := HTX.out
      go_wp2_with fail
      rw [← HW2.out, ← HN1.out]
      refine wp_region_K 5 (by kernel_rfl) (by kernel_rfl) (fun Q HQQ => ?_)
      simp only [List.take_succ_cons, List.take_zero, List.map_cons, List.map_nil]
      repeat
        first
        | (refine wpS_skip (b := true) rfl (guard_mk rfl rfl) ?_)
        | (refine wpS_skip (b := false) rfl (guard_mk rfl rfl) ?_)
        | (refine wpS_skipU rfl (guardU_mk rfl rfl) ?_)
        | (first | apply wpS_c rfl | apply wpS_gc rfl (guard_mk rfl rfl)
           focus
             intro ev wx hC hx
             (try simp [Op.operands, Call.operands, opndS, Slot.holds] at hx)
             have z0 := hC.cell (HT2.out.cell (k := 0) rfl)
             have z1 := hC.cell (HT2.out.cell (k := 1) rfl)
             have z2 := hC.cell (HT2.out.cell (k := 2) rfl)
             have z3 := hC.cell (HA2.out.cell (k := 1) rfl)
             go_simp
             try (first | exact rfl | exact ⟨Below.refl _ _, rfl⟩)
             done)
        dsimp only [setS, List.set]
      refine wpS_nil (HQQ _ fun w3 hC3 => ?_)
      simp only [closeS, List.drop_succ_cons, List.drop_zero, List.drop_nil]
      have HB3 := hide (HB2.out.trans (hC3.below.mono HB2.out.size))
      have HF3 := hide (((HF1.out.below HX2.out)).below hC3.below)
      have HK3 := hide ((HK1.out.below HX2.out).below hC3.below)
      clear HQQ hC3 x0 x1 x2 x3 y0 y1 y2 y3
      go_wp2_with fail
      refine (HCL.out _ _ HB3.out HK3.out).mono ?_
      rintro e w4 ⟨rfl, hk4, hq4⟩
      have HR4 := hide ((KR.of HB3.out (Nat.le_of_lt hgx)).trans hk4)
      have HN := hide (show gx < n0 by have := HN0.out; omega)
      have HF4 := hide (HF3.out.kr hk4 HN.out (Ne.symm he) (by decide))
      have HQ5 := hide (HQ.out n0 1 (.int .i64 0) _ _ HN.out (HF4.out.set 0 (.int .i64 0)) (HQ.out n0 0 (.int .i64 0) _ _ HN.out HF4.out hq4))
      clear hk4 hq4
      have m0 := HF4.out.cell (k := 0) rfl
      have m1 := HF4.out.cell (k := 1) rfl
      have e0 := HF4.out.fr 0
      have e1 := HF4.out.fr 1
      have HF5 := hide ((HF4.out.set 0 (.int .i64 0)).set 1 (.int .i64 0))
      have m2 := HF5.out.cell (k := 0) rfl
      have m3 := HF5.out.cell (k := 1) rfl
      go_wp2
      refine bodyPost_ret (v := .agg #[.int .i64 0, .int .i64 0]) (by simp [results, Tryz.results40, go_sem, m2, m3]) rfl ⟨rfl, ⟨?_, ?_⟩, HQ5.out⟩
      · exact (HR4.out.b.setCell (p := ⟨n0, 0, none⟩) (Nat.le_of_lt HN.out) _).setCell (p := ⟨n0, 1, none⟩) (Nat.le_of_lt HN.out) _
      · intro b' T' s' v' n' xs' hb' hT' hown
        have hne : v'.ownBlock ≠ some n0 := fun e => by have := (ownG_lt hown e).2; have := HN0.out; omega
        exact ownG_setne (ownG_setne (HR4.out.r b' T' s' v' n' xs' hb' hT' hown) hne 0 _) hne 1 _
    · skip
      have ht0 : (nl == [116, 101, 120, 116]) = true := HTX.out
      go_wp2_with fail
      rw [← HW2.out, ← HN1.out]
      refine wp_region_K 5 (by kernel_rfl) (by kernel_rfl) (fun Q HQQ => ?_)
      simp only [List.take_succ_cons, List.take_zero, List.map_cons, List.map_nil]
      repeat
        first
        | (refine wpS_skip (b := true) rfl (guard_mk rfl rfl) ?_)
        | (refine wpS_skip (b := false) rfl (guard_mk rfl rfl) ?_)
        | (refine wpS_skipU rfl (guardU_mk rfl rfl) ?_)
        | (first | apply wpS_c rfl | apply wpS_gc rfl (guard_mk rfl rfl)
           focus
             intro ev wx hC hx
             (try simp [Op.operands, Call.operands, opndS, Slot.holds] at hx)
             have z0 := hC.cell (HT2.out.cell (k := 0) rfl)
             have z1 := hC.cell (HT2.out.cell (k := 1) rfl)
             have z2 := hC.cell (HT2.out.cell (k := 2) rfl)
             have z3 := hC.cell (HA2.out.cell (k := 3) rfl)
             go_simp
             try (first | exact rfl | exact ⟨Below.refl _ _, rfl⟩)
             done)
        dsimp only [setS, List.set]
      refine wpS_nil (HQQ _ fun w3 hC3 => ?_)
      simp only [closeS, List.drop_succ_cons, List.drop_zero, List.drop_nil]
      have HB3 := hide (HB2.out.trans (hC3.below.mono HB2.out.size))
      have HF3 := hide (((HF1.out.below HX2.out)).below hC3.below)
      have HK3 := hide ((HK1.out.below HX2.out).below hC3.below)
      clear HQQ hC3 x0 x1 x2 x3 y0 y1 y2 y3
      go_wp2_with fail
      refine (HCL.out _ _ HB3.out HK3.out).mono ?_
      rintro e w4 ⟨rfl, hk4, hq4⟩
      have HR4 := hide ((KR.of HB3.out (Nat.le_of_lt hgx)).trans hk4)
      have HN := hide (show gx < n0 by have := HN0.out; omega)
      have HF4 := hide (HF3.out.kr hk4 HN.out (Ne.symm he) (by decide))
      have HQ5 := hide (HQ.out n0 1 (.int .i64 0) _ _ HN.out (HF4.out.set 0 (.int .i64 0)) (HQ.out n0 0 (.int .i64 0) _ _ HN.out HF4.out hq4))
      clear hk4 hq4
      have m0 := HF4.out.cell (k := 0) rfl
      have m1 := HF4.out.cell (k := 1) rfl
      have e0 := HF4.out.fr 0
      have e1 := HF4.out.fr 1
      have HF5 := hide ((HF4.out.set 0 (.int .i64 0)).set 1 (.int .i64 0))
      have m2 := HF5.out.cell (k := 0) rfl
      have m3 := HF5.out.cell (k := 1) rfl
      go_wp2
      refine bodyPost_ret (v := .agg #[.int .i64 0, .int .i64 0]) (by simp [results, Tryz.results40, go_sem, m2, m3]) rfl ⟨rfl, ⟨?_, ?_⟩, HQ5.out⟩
      · exact (HR4.out.b.setCell (p := ⟨n0, 0, none⟩) (Nat.le_of_lt HN.out) _).setCell (p := ⟨n0, 1, none⟩) (Nat.le_of_lt HN.out) _
      · intro b' T' s' v' n' xs' hb' hT' hown
        have hne : v'.ownBlock ≠ some n0 := fun e => by have := (ownG_lt hown e).2; have := HN0.out; omega
        exact ownG_setne (ownG_setne (HR4.out.r b' T' s' v' n' xs' hb' hT' hown) hne 0 _) hne 1 _
end Go.Proofs.YtbpkclopcoaikaaGreatDoor
namespace Go.Proofs.YtbpkclopcoaikaaGreatDoor
open Go.RowKit
set_option linter.unusedVariables false
set_option linter.unusedSimpArgs false
theorem own_ne_blk {w : World} {b s n g : Nat} {T T' : TypeId} {v : Value} {xs cs : List Value} (h : w.ownsRow b T s v n xs) (hb : Blk w g cs T') (hT : T ≠ T') : v.ownBlock ≠ some g := by
  intro e
  rcases h.2 with ⟨rfl, _⟩ | ⟨g', cap, cur, rfl, -, hg, -⟩
  · cases e
  · simp [Value.ownBlock] at e
    subst e
    unfold Blk at hb
    rw [hg] at hb
    injection hb with hb
    injection hb with _ ht _
    exact hT ht
theorem TokR.setne {w : World} {B g : Nat} {vT : Value} {toks : List UInt8} {cs : List Value} (h : TokR w B vT toks) (hb : Blk w g cs 97) (k : Nat) (u : Value) : TokR (w.setCell ⟨g, k, none⟩ u) B vT toks := by
  obtain ⟨ts, h1, h2⟩ := h
  exact ⟨ts, ownG_setne h1 (own_ne_blk h1 hb (by decide)) k u, fun i c hi => let ⟨v, e, ho⟩ := h2 i c hi; ⟨v, e, ownG_setne ho (own_ne_blk ho hb (by decide)) k u⟩⟩
theorem TokR.kr {w w' : World} {gx B : Nat} {e : TypeId} {vT : Value} {toks : List UInt8} (h : TokR w B vT toks) (hk : KR gx e w w') (hB : gx < B) (h1 : e ≠ 28) (h2 : e ≠ 9) : TokR w' B vT toks := by
  obtain ⟨ts, t1, t2⟩ := h
  exact ⟨ts, hk.r _ _ _ _ _ _ hB (Ne.symm h1) t1, fun i c hi => let ⟨v, e, ho⟩ := t2 i c hi; ⟨v, e, hk.r _ _ _ _ _ _ hB (Ne.symm h2) ho⟩⟩
theorem TokR.below {w w' : World} {B : Nat} {vT : Value} {toks : List UInt8} (h : TokR w B vT toks) (hb : Below w.heap.size w w') : TokR w' B vT toks := by
  obtain ⟨ts, t1, t2⟩ := h
  exact ⟨ts, ownG_below t1 hb, fun i c hi => let ⟨v, e, ho⟩ := t2 i c hi; ⟨v, e, ownG_below ho hb⟩⟩
set_option maxHeartbeats 16000000 in
set_option maxRecDepth 100000 in
theorem lineK_any (gx : Nat) (vT vX vR vO : Value) (aA : Option Addr) (cA : Nat) (AT : ByteArray) (toks : List UInt8) (c : UInt8) (w : World) (hm : MaxL w) (h0 : 0 < gx) (h : RdB w gx (.slice aA 1 cA) vT vX vR vO true) (hA : Rd w aA [.string AT, .bool false]) (hT : TokR w (gx + 1) vT toks) (htl : toks.length ≤ 10) (hc : PlainB c) (hcs : Lib.countB (bstr [c]) (bstr [9]) = 0) (hp : Lib.hasPrefix [c] [60] = false) : Calls Tryz.prog 40 #[.pointer (some ⟨gx, 0, none⟩), .string (bstr [c])] w (LnP gx 28 (fun w' => ∃ vT, RdB w' gx (.slice aA 1 cA) vT vX vR vO true ∧ TokR w' (gx + 1) vT (toks ++ [c])) w) := by
  have HPX : Hid (∀ wx, Calls Tryz.prog 62 #[.string (bstr [c]), .string ⟨#[60]⟩] wx fun e w' => e = .returned (.bool false) ∧ wx = w') := hide (fun wx => prefix_any [c] [60] wx false hp)
  have HTK : Hid (∀ wx, Below w.heap.size w wx → Calls Tryz.prog 63 #[.pointer (some ⟨gx, 0, none⟩), .string (bstr [c])] wx (TkP gx (.slice aA 1 cA) vX vR vO (toks ++ [c]) wx)) := hide (fun wx hx => tok_any gx vT vX vR vO aA cA AT toks c wx (hm.below hx) h0 (Blk.below h hx) (hA.below hx) (hT.below hx) htl hc hcs)
  have hgx := Blk.lt h
  obtain ⟨S, hS⟩ : ∃ S, S = bstr [c] := ⟨_, rfl⟩
  rw [← hS] at HPX HTK ⊢
  obtain ⟨n0, hn0⟩ : ∃ n0, n0 = w.heap.size := ⟨_, rfl⟩
  have HN0 := hide hn0
  obtain ⟨W0, hW0⟩ : ∃ W0, W0 = w.alloc (.cells #[.int .i64 0, .int .i64 0] 97 (0, 0)) := ⟨_, rfl⟩
  have HW := hide hW0
  have HB0 : Hid (Below w.heap.size w W0) := hide (by rw [hW0]; exact bl_alloc (bl_refl w) _)
  have HF0 : Hid (Blk W0 n0 [.int .i64 0, .int .i64 0] 97) := hide (by rw [hW0, hn0]; exact Blk.new w _ _)
  clear hm h hA hT htl hc hcs hp hS hn0 hW0
  go_enter Tryz.func40, Tryz.ntmps40
  go_wp2_with fail
  rw [← HW.out, ← HN0.out]
  refine (HPX.out _).mono ?_
  rintro e w' ⟨rfl, rfl⟩
  go_wp2_with fail
  refine (HTK.out _ HB0.out).mono ?_
  rintro e w4 ⟨rfl, hk4, vT', hr4, ht4⟩
  have HR4 := hide ((KR.of HB0.out (Nat.le_of_lt hgx)).trans hk4)
  have HN := hide (show gx < n0 by have := HN0.out; omega)
  have HF4 := hide (HF0.out.kr hk4 HN.out (by decide) (by decide))
  have HD4 := hide hr4
  have HT4 := hide ht4
  clear hk4 hr4 ht4
  have m0 := HF4.out.cell (k := 0) rfl
  have m1 := HF4.out.cell (k := 1) rfl
  have e0 := HF4.out.fr 0
  have e1 := HF4.out.fr 1
  have HF5 := hide ((HF4.out.set 0 (.int .i64 0)).set 1 (.int .i64 0))
  have m2 := HF5.out.cell (k := 0) rfl
  have m3 := HF5.out.cell (k := 1) rfl
  go_wp2
  refine bodyPost_ret (v := .agg #[.int .i64 0, .int .i64 0]) (by simp [results, Tryz.results40, go_sem, m2, m3]) rfl ⟨rfl, ⟨?_, ?_⟩, vT', ?_, ?_⟩
  · exact (HR4.out.b.setCell (p := ⟨n0, 0, none⟩) (Nat.le_of_lt HN.out) _).setCell (p := ⟨n0, 1, none⟩) (Nat.le_of_lt HN.out) _
  · intro b' T' s' v' n' xs' hb' hT' hown
    have hne : v'.ownBlock ≠ some n0 := fun e => by have := (ownG_lt hown e).2; have := HN0.out; omega
    exact ownG_setne (ownG_setne (HR4.out.r b' T' s' v' n' xs' hb' hT' hown) hne 0 _) hne 1 _
  · exact Blk.setne (Blk.setne HD4.out (by have := HN.out; omega) 0 _) (by have := HN.out; omega) 1 _
  · exact TokR.setne (TokR.setne HT4.out HF4.out 0 _) (HF4.out.set 0 _) 1 _
/-! ### The tags of the text -/
def nmB (l : List UInt8) (k m : Nat) : Bool := decide (k < m) && decide (m ≤ k + 32) && decide (m ≤ l.length) && (l[k]?.map firstB).getD false && ((l.take m).drop k).all nextB && (l[m]?.map fun c => !nextB c).getD true
theorem nm_of {l : List UInt8} {k m : Nat} (h : nmB l k m = true) : NmAt l k m := by
  unfold nmB at h
  simp only [Bool.and_eq_true, decide_eq_true_eq] at h
  obtain ⟨⟨⟨⟨⟨h1, h2⟩, h3⟩, h4⟩, h5⟩, h6⟩ := h
  refine ⟨h1, h2, h3, ?_, ?_, ?_⟩
  · cases hc : l[k]? with
    | none => rw [hc] at h4; simp at h4
    | some c => rw [hc] at h4; exact ⟨c, rfl, by simpa using h4⟩
  · intro j hj1 hj2
    have hjl : j < l.length := by omega
    refine ⟨l[j], List.getElem?_eq_getElem hjl, ?_⟩
    refine List.all_eq_true.1 h5 _ (List.mem_of_getElem? (i := j - k) ?_)
    rw [List.getElem?_drop, show k + (j - k) = j by omega, List.getElem?_take, if_pos hj2, List.getElem?_eq_getElem hjl]
  · intro c hc
    rw [hc] at h6
    simpa using h6
def L1 : List UInt8 := [60, 116, 101, 120, 116, 32, 105, 100, 61, 34, 116, 34, 62]
def L2 : List UInt8 := [60, 115, 62]
def L4 : List UInt8 := [60, 47, 115, 62]
def L6 : List UInt8 := [60, 47, 116, 101, 120, 116, 62]
theorem tagL2 : TagHas L2 false (bstr [115]) none := fun g wx h => (tagO_any g L2 1 2 (bstr [115]) rfl wx h (by decide) rfl (by decide) rfl (nm_of (by decide)) (by decide) rfl rfl).mono fun e w' ⟨h1, h2⟩ => ⟨_, h1, h2, rfl⟩
theorem tagL4 : TagHas L4 true (bstr [115]) none := fun g wx h => (tagC_any g L4 2 3 (bstr [115]) rfl wx h (by decide) rfl (by decide) rfl (nm_of (by decide)) (by decide) rfl rfl).mono fun e w' ⟨h1, h2⟩ => ⟨_, h1, h2, rfl⟩
theorem tagL6 : TagHas L6 true (bstr [116, 101, 120, 116]) none := fun g wx h => (tagC_any g L6 2 6 (bstr [116, 101, 120, 116]) rfl wx h (by decide) rfl (by decide) rfl (nm_of (by decide)) (by decide) rfl rfl).mono fun e w' ⟨h1, h2⟩ => ⟨_, h1, h2, rfl⟩
theorem plain_t : PlainB 116 := ⟨by decide, by decide, by decide, by decide, by decide, by decide⟩
theorem plain_a : PlainB 97 := ⟨by decide, by decide, by decide, by decide, by decide, by decide⟩
theorem plain_b : PlainB 98 := ⟨by decide, by decide, by decide, by decide, by decide, by decide⟩
theorem tagL1 : TagHas L1 false (bstr [116, 101, 120, 116]) (some (bstr [105, 100], bstr [116])) := fun g wx h => (tagK_any g L1 1 5 6 8 10 11 12 (bstr [116, 101, 120, 116]) (bstr [105, 100]) (bstr [116]) rfl rfl 116 rfl wx h (by decide) rfl (by decide) rfl (nm_of (by decide)) (by decide) rfl (by decide) (nm_of (by decide)) rfl rfl rfl plain_t rfl rfl rfl rfl (by decide) rfl rfl).mono fun e w' ⟨v, h1, h2, h3⟩ => ⟨v, h1, h2, h3⟩
end Go.Proofs.YtbpkclopcoaikaaGreatDoor
namespace Go.Proofs.YtbpkclopcoaikaaGreatDoor
open Go.RowKit
set_option linter.unusedVariables false
set_option linter.unusedSimpArgs false
def PartP (w : World) (e : Ending) (w' : World) : Prop := e = .returned (.tuple #[.int .i64 0, .int .i64 0]) ∧ Below w.heap.size w w'
set_option maxRecDepth 100000 in
theorem pairs0_any (w : World) : Calls Tryz.prog 73 #[.slice none 0 0] w fun e w' => e = .returned (.int .i64 0) ∧ w = w' := by
  go_enter Tryz.func73, Tryz.ntmps73
  go_wp2_with fail
  go_loop [11] (fun k => k = .int .i64 0) (fun _ => 0)
  case atStart => rfl
  case round =>
    subst hrel
    go_wp2
    go_ret
    exact ⟨rfl, rfl⟩
theorem info_boolE : (Tryz.prog.info? 4).map (fun i => (i.zero, i.size, i.bytes)) = some (some (.bool false), 1, 1) := by kernel_rfl
set_option maxHeartbeats 2000000 in
set_option maxRecDepth 100000 in
theorem cycles0_any (w : World) : Calls Tryz.prog 78 #[.slice none 0 0] w fun e w' => (∃ a n c, e = .returned (.slice a n c)) ∧ Below w.heap.size w w' := by
  obtain ⟨i2, hi2, hz0, hz1, hz2⟩ := info_parts info_int
  obtain ⟨i3, hi3, hy0, hy1, hy2⟩ := info_parts info_boolE
  go_enter Tryz.func78, Tryz.ntmps78
  go_wp2_with (at_make; go_loud (first | (refine wpList_make_full _ rfl (.tmp 9) (.tmp 9) 127 rfl w.heap.size 4 i3 _ 1 Tryz.underlying127 hi3 hy0 hy1 .i64 .i64 _ _ 0 rfl rfl rfl rfl (by omega) (by simp only [maxLen]; omega) (Nat.le_refl _) ?_; intro w2 hown hg1; have HB2 := hide (bl_grown (bl_refl w) hg1 (fun k h => by cases h)); clear hown hg1) | (refine wpList_make_full _ rfl (.tmp 12) (.tmp 12) 27 rfl w2.heap.size 3 i2 _ 1 Tryz.underlying27 hi2 hz0 hz1 .i64 .i64 _ _ 0 rfl rfl rfl rfl (by omega) (by simp only [maxLen]; omega) (Nat.le_refl _) ?_; intro w3 hown hg1; have HB3 := hide (HB2.out.trans ((bl_grown (bl_refl w2) hg1 (fun k h => by cases h)).mono HB2.out.size)); clear hown hg1)))
  go_loopw [16] (fun k wr => Hid (k = .int .i64 0 ∧ wr = w3)) (fun _ _ => 0)
  case atStart => exact hide ⟨rfl, rfl⟩
  case round =>
    obtain ⟨rfl, hww⟩ := hrel.out
    obtain rfl : w3 = wr := hww.symm
    clear hrel hww
    go_wp2
    go_ret
    exact ⟨⟨_, _, _, rfl⟩, HB3.out⟩
set_option maxHeartbeats 2000000 in
set_option maxRecDepth 100000 in
theorem heads0_any (c : Cv) (w : World) (hH : c.H = ⟨none, 0, 0⟩) (hL : c.L.n = 0) : Calls Tryz.prog 48 #[c.v] w (PartP w) := by
  obtain ⟨cA, cT, cX, cR, cN, cH, ⟨la, ln, lc⟩⟩ := c
  simp only at hH hL
  subst hH hL
  obtain ⟨c, hc⟩ : ∃ c, c = (Cv.mk cA cT cX cR cN ⟨none, 0, 0⟩ ⟨la, 0, lc⟩) := ⟨_, rfl⟩
  have HB := hide (bl_alloc (bl_refl w) (Cv.mk cA cT cX cR cN ⟨none, 0, 0⟩ ⟨la, 0, lc⟩).o)
  have HC := hide (CCells.new w (Cv.mk cA cT cX cR cN ⟨none, 0, 0⟩ ⟨la, 0, lc⟩))
  clear hc
  go_enter Tryz.func48, Tryz.ntmps48
  go_wp2_with fail
  refine (cycles0_any _).mono ?_
  rintro e w1 ⟨⟨a, n, cc, rfl⟩, hb⟩
  have HB1 := hide (HB.out.trans (hb.mono HB.out.size))
  obtain ⟨s0, s1, s2, s3, s4, s5, s6⟩ := HC.out.below hb
  clear hb
  go_wp2_with fail
  clear s0 s1 s2 s3 s4 s5 s6
  go_loopw [43] (fun k wr => Hid (k = .int .i64 0 ∧ wr = w1)) (fun _ _ => 0)
  case atStart => exact hide ⟨rfl, rfl⟩
  case round =>
    obtain ⟨rfl, hww⟩ := hrel.out
    obtain rfl : w1 = wr := hww.symm
    clear hrel hww
    go_wp2
    go_ret2
    exact ⟨rfl, HB1.out⟩
set_option maxHeartbeats 2000000 in
set_option maxRecDepth 100000 in
theorem nodes0_any (c : Cv) (w : World) (hN : c.N.n = 0) : Calls Tryz.prog 47 #[c.v] w (PartP w) := by
  obtain ⟨i2, hi2, hz0, hz1, hz2⟩ := info_parts info_int
  obtain ⟨cA, cT, cX, cR, ⟨na, nn, nc⟩, cH, cL⟩ := c
  simp only at hN
  subst hN
  obtain ⟨W0, hW0⟩ : ∃ W0, W0 = w.alloc (Cv.mk cA cT cX cR ⟨na, 0, nc⟩ cH cL).o := ⟨_, rfl⟩
  have HW := hide hW0
  have HB := hide (bl_alloc (bl_refl w) (Cv.mk cA cT cX cR ⟨na, 0, nc⟩ cH cL).o)
  have HC := hide (CCells.new w (Cv.mk cA cT cX cR ⟨na, 0, nc⟩ cH cL))
  rw [← hW0] at HB HC
  clear hW0
  go_enter Tryz.func47, Tryz.ntmps47
  go_wp2_with (at_make; go_loud (first | (rw [← HW.out]; refine wpList_make_full _ rfl (.tmp 16) (.tmp 16) 27 rfl W0.heap.size 3 i2 _ 1 Tryz.underlying27 hi2 hz0 hz1 .i64 .i64 _ _ 1 rfl rfl rfl rfl (by omega) (by simp only [maxLen]; omega) (Nat.le_refl _) ?_; intro w2 hown hg1; have HX2 := hide (bl_grown (bl_refl W0) hg1 (fun k h => by cases h)); have s4 := (HC.out.below HX2.out).c4; clear hown hg1) | (refine wpList_make_full _ rfl (.tmp 21) (.tmp 21) 27 rfl w2.heap.size 3 i2 _ 1 Tryz.underlying27 hi2 hz0 hz1 .i64 .i64 _ _ 1 rfl rfl rfl rfl (by omega) (by simp only [maxLen]; omega) (Nat.le_refl _) ?_; intro w3 hown hg1; have HX3 := hide (HX2.out.trans ((bl_grown (bl_refl w2) hg1 (fun k h => by cases h)).mono HX2.out.size)); have s4' := (HC.out.below HX3.out).c4; clear hown hg1)))
  clear s4 s4'
  have HB3 := hide (HB.out.trans (HX3.out.mono HB.out.size))
  go_loopw [26] (fun k wr => Hid (k = .int .i64 0 ∧ wr = w3)) (fun _ _ => 0)
  case atStart => exact hide ⟨rfl, rfl⟩
  case round =>
    obtain ⟨rfl, hww⟩ := hrel.out
    obtain rfl : w3 = wr := hww.symm
    clear hrel hww
    go_wp2
    go_ret2
    exact ⟨rfl, HB3.out⟩
set_option maxHeartbeats 4000000 in
set_option maxRecDepth 100000 in
theorem attrs1_any (c : Cv) (l : List UInt8) (w : World) (hn : c.A.n = 1) (hc : c.A.n ≤ c.A.c) (hA : Rd w c.A.a [.string (bstr l), .bool false]) (hl : nameB l = true) : Calls Tryz.prog 43 #[c.v] w (PartP w) := by
  have HNM : Hid (∀ wx, Calls Tryz.prog 50 #[.string (bstr l)] wx fun e w' => e = .returned (.bool true) ∧ wx = w') := hide (fun wx => hl ▸ mname_any l wx)
  obtain ⟨S, hS⟩ : ∃ S, S = bstr l := ⟨_, rfl⟩
  rw [← hS] at HNM hA
  clear hS hl
  obtain ⟨⟨aa, an, ac⟩, cT, cX, cR, cN, cH, cL⟩ := c
  simp only at hn hA hc
  subst hn
  obtain ⟨b, o, rfl, hb, hcl⟩ := hA.open_ (by simp)
  have HA := hide hA
  clear hA hb hcl
  obtain ⟨W0, hW0⟩ : ∃ W0, W0 = w.alloc (Cv.mk ⟨some ⟨b, o, none⟩, 1, ac⟩ cT cX cR cN cH cL).o := ⟨_, rfl⟩
  have HW := hide hW0
  have HB := hide (bl_alloc (bl_refl w) (Cv.mk ⟨some ⟨b, o, none⟩, 1, ac⟩ cT cX cR cN cH cL).o)
  have HC := hide (CCells.new w (Cv.mk ⟨some ⟨b, o, none⟩, 1, ac⟩ cT cX cR cN cH cL))
  rw [← hW0] at HB HC
  clear hW0
  have hac : (1 : Int) ≤ (ac : Int) := by omega
  go_enter Tryz.func43, Tryz.ntmps43
  go_wp2_with fail
  rw [← HW.out]
  go_loopw [21] (fun k wr => Hid (k = .int .i64 0 ∧ wr = W0 ∨ k = .int .i64 1 ∧ Below W0.heap.size W0 wr)) (fun k _ => 1 - (intOf k).toNat)
  case atStart => exact hide (.inl ⟨rfl, rfl⟩)
  case round =>
    rcases hrel.out with ⟨rfl, hww⟩ | ⟨rfl, hb⟩
    · obtain rfl : W0 = wr := hww.symm
      have a0 := (HB.out.cell (lt_heap (HA.out.cells _ rfl 0 _ rfl))).trans (HA.out.cells _ rfl 0 _ rfl)
      have a1 := (HB.out.cell (lt_heap (HA.out.cells _ rfl 1 _ rfl))).trans (HA.out.cells _ rfl 1 _ rfl)
      rw [Addr.add_lit] at a0 a1
      simp only [Nat.add_zero] at a0
      have HX1 : Hid (Below W0.heap.size W0 (W0.alloc (.cells #[.string S, .bool false] 71 (0, 0)))) := hide (bl_alloc (bl_refl W0) _)
      have s0 := (HC.out.below HX1.out).c0
      clear hrel hww
      go_wp2_with fail
      refine (HNM.out _).mono ?_
      rintro e w' ⟨rfl, rfl⟩
      go_wp2_with fail
      clear a0 a1 s0
      go_loopw [36] (fun k wr => Hid (k = .int .i64 0 ∧ Below W0.heap.size W0 wr)) (fun _ _ => 0)
      case atStart => exact hide ⟨rfl, HX1.out⟩
      case round =>
        obtain ⟨rfl, hbw⟩ := hrel.out
        have HBW := hide hbw
        clear hbw hrel
        go_wp2
        go_roundw
        case rel => exact hide (.inr ⟨rfl, HBW.out⟩)
        case measure => simp [intOf]
    · have HBW := hide (HB.out.trans (hb.mono HB.out.size))
      clear hb hrel
      go_wp2
      go_ret2
      exact ⟨rfl, HBW.out⟩
end Go.Proofs.YtbpkclopcoaikaaGreatDoor
