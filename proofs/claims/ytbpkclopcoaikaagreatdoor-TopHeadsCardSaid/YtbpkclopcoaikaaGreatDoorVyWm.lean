/- The walk of vertical.Parse at the text of the example. -/
import Derived.Test.YtbpkclopcoaikaaGreatDoorVxWm
import Derived.Test.YtbpkclopcoaikaaGreatDoorMi
namespace Go.Proofs.YtbpkclopcoaikaaGreatDoor
open Go.RowKit
set_option linter.unusedVariables false
set_option linter.unusedSimpArgs false
def DD : List UInt8 := [60, 116, 101, 120, 116, 32, 105, 100, 61, 34, 116, 34, 62, 10, 60, 115, 62, 10, 97, 10, 60, 47, 115, 62, 10, 98, 10, 60, 47, 116, 101, 120, 116, 62, 10]
def atK : Nat → Nat
  | 0 => 0 | 1 => 14 | 2 => 18 | 3 => 20 | 4 => 25 | 5 => 27 | _ => 35
def atI : Nat → Int
  | 0 => 0 | 1 => 14 | 2 => 18 | 3 => 20 | 4 => 25 | 5 => 27 | _ => 35
def lnK : Nat → List UInt8
  | 0 => L1 | 1 => L2 | 2 => [97] | 3 => L4 | 4 => [98] | _ => L6
def rsK (k : Nat) : List UInt8 := DD.drop (atK (k + 1))
theorem info_attr : (Tryz.prog.info? 71).map (fun i => (i.zero, i.size, i.bytes)) = some (some (.agg #[.string ⟨#[]⟩, .bool false]), 2, 24) := by kernel_rfl
theorem rd_belowG {g : Nat} {w w' : World} {b o : Nat} {xs : List Value} (h : Rd w (some ⟨b, o, none⟩) xs) (hb : Below g w w') (hg : b < g) (hs : w.heap.size ≤ w'.heap.size) : Rd w' (some ⟨b, o, none⟩) xs := by
  rcases h with rfl | ⟨b', o', e, hlt, hc⟩
  · exact .inl rfl
  · injection e with e
    injection e with e1 e2
    subst e1 e2
    exact .inr ⟨b, o, rfl, by omega, fun k v hv => (hb.cell (p := ⟨b, o + k, none⟩) hg).trans (hc k v hv)⟩
/-- What Parse yields at the example. -/
structure PDone (w : World) (c : Cv) : Prop where
  A : c.A.n = 1 ∧ 1 ≤ c.A.c ∧ Rd w c.A.a [.string (bstr [119, 111, 114, 100]), .bool false]
  T : c.T.n = 2 ∧ TokV w c.T.a [97, 98]
  X : c.X.n = 1 ∧ Rd w c.X.a (txtV (0, 2))
  R : c.R.n = 1 ∧ Rd w c.R.a (regV (0, 1))
  N : c.N = ⟨none, 0, 0⟩
  H : c.H = ⟨none, 0, 0⟩
  L : c.L = ⟨none, 0, 0⟩
theorem rd_setne {w : World} {a : Option Addr} {xs : List Value} (h : Rd w a xs) {g : Nat} (hn : ∀ b, a = some b → b.block ≠ g) (k : Nat) (u : Value) : Rd (w.setCell ⟨g, k, none⟩ u) a xs := Rd.kg h ((KG.refl g w).setCell k u) hn
theorem TokR.setlt {w : World} {B g : Nat} {vT : Value} {toks : List UInt8} (h : TokR w B vT toks) (hg : g < B) (k : Nat) (u : Value) : TokR (w.setCell ⟨g, k, none⟩ u) B vT toks := by
  obtain ⟨ts, h1, h2⟩ := h
  exact ⟨ts, ownG_setlt h1 hg k u, fun i c hi => let ⟨v, e, ho⟩ := h2 i c hi; ⟨v, e, ownG_setlt ho hg k u⟩⟩
theorem TokR.tokV {w : World} {B n c : Nat} {a : Option Addr} {toks : List UInt8} (h : TokR w B (.slice a n c) toks) (hp : ∀ c ∈ toks, PlainB c) : n = toks.length ∧ TokV w a toks := by
  obtain ⟨ts, h1, h2⟩ := h
  obtain ⟨a', c', e, hnc, hr⟩ := ownG_form h1
  injection e with e1 e2 e3
  subst e1 e2 e3
  refine ⟨rfl, ts, by have := h1.1; simpa using this, hr, fun i c hi => ⟨hp c (List.mem_of_getElem? hi), ?_⟩⟩
  obtain ⟨v, hv, ho⟩ := h2 i c hi
  obtain ⟨a2, c2, e2, _, hr2⟩ := ownG_form ho
  exact ⟨a2, c2, by rw [hv, e2], hr2⟩
def ParP (w : World) (e : Ending) (w' : World) : Prop := ∃ c : Cv, e = .returned (.tuple #[c.v, .agg #[.int .i64 0, .int .i64 0], .int .i64 0]) ∧ Below w.heap.size w w' ∧ PDone w' c
set_option maxHeartbeats 16000000 in
set_option maxRecDepth 100000 in
theorem vparse_any (a : Option Addr) (cp : Nat) (w : World) (hcp : 1 ≤ cp) (hA : Rd w a [.string (bstr [119, 111, 114, 100]), .bool false]) (hm : MaxL w) : Calls Tryz.prog 27 #[.string (bstr DD), .slice a 1 cp] w (ParP w) := by
  obtain ⟨i2, hi2, hz0, hz1, hz2⟩ := info_parts info_attr
  have HCK : Hid (∀ wx, Below w.heap.size w wx → Calls Tryz.prog 38 #[.slice a 1 cp] wx fun e w' => e = .returned (.bool true) ∧ Below wx.heap.size wx w') := hide (fun wx hx => chkA_any [119, 111, 114, 100] a cp wx hcp (hA.below hx) (by decide))
  obtain ⟨AT, hAT⟩ : ∃ S, S = bstr [119, 111, 114, 100] := ⟨_, rfl⟩
  have HAT := hide hAT
  rw [← hAT] at hA
  obtain ⟨S, hS⟩ : ∃ S, S = bstr DD := ⟨_, rfl⟩
  rw [← hS]
  have HS := hide hS
  have HSZ : Hid ((S.size : Int) = 35) := hide (by rw [hS]; rfl)
  have HSZn : Hid (S.size = 35) := hide (by rw [hS]; rfl)
  have HA := hide hA
  have HM := hide hm
  obtain ⟨W0, hW0⟩ : ∃ W0, W0 = (w.alloc (.cells #[.slice none 0 0, .slice none 0 0, .slice none 0 0, .slice none 0 0, .slice none 0 0, .slice none 0 0, .slice none 0 0] 30 (0, 0))).alloc (.cells #[.int .i64 0, .int .i64 0] 67 (0, 0)) := ⟨_, rfl⟩
  have HW := hide hW0
  have HB0 : Hid (Below w.heap.size w W0) := hide (by rw [hW0]; exact bl_alloc (bl_alloc (bl_refl w) _) _)
  have HC0 : Hid (Blk W0 w.heap.size [.slice none 0 0, .slice none 0 0, .slice none 0 0, .slice none 0 0, .slice none 0 0, .slice none 0 0, .slice none 0 0] 30) := hide (by rw [hW0]; exact (Blk.new w _ _).alloc _)
  have HP0 : Hid (Blk W0 (w.heap.size + 1) [.int .i64 0, .int .i64 0] 67) := hide (by rw [hW0]; exact Blk.newG (by simp) _ _)
  clear hW0 hA hm hAT hS
  go_enter Tryz.func27, Tryz.ntmps27
  go_wp2_with fail
  rw [← HW.out]
  refine (HCK.out _ HB0.out).mono ?_
  rintro e w1 ⟨rfl, hb1⟩
  have HB1 := hide (HB0.out.trans (hb1.mono HB0.out.size))
  have HC1 := hide (HC0.out.below hb1)
  have HP1 := hide (HP0.out.below hb1)
  have HA1 := hide (HA.out.below HB1.out)
  have hsz := HSZ.out
  clear hb1
  go_wp2_with (at_builtin; go_loud (refine wpList_append_rd _ rfl (.const (.slice none 0 0)) (.tmp 23) 22 rfl (w.heap.size + 2) 71 i2 _ 2 24 Tryz.underlying22 hi2 hz0 hz1 hz2 rfl (by decide) (.slice none 0 0) 0 [] rfl (World.ownsRow_nil _ _ _ _) a 1 cp [.string AT, .bool false] rfl rfl HA1.out (by intro u hu; simp at hu; rcases hu with rfl | rfl <;> rfl) (by simp only [maxLen]; omega) (by omega) (by have := HP1.out.lt; omega) ?_; intro v2 w2 hown hg1 hat1; obtain ⟨gA, cA, hv, hcc, hgb, hgl⟩ := ownG_pos hown (by omega); subst hv; have HX2 := hide (bl_grown (bl_refl w1) hg1 (fun k hk => by cases hk)); have HO2 := hide hown; have HG2 := hide (And.intro hcc (And.intro hgb hgl)); clear hown hg1 hat1 hcc hgb hgl))
  obtain ⟨gx, hgx⟩ : ∃ gx, gx = w2.heap.size := ⟨_, rfl⟩
  have HGX := hide hgx
  rw [← hgx]
  obtain ⟨w3, hw3⟩ : ∃ w3, w3 = w2.alloc (.cells #[.slice (some ⟨gA, 0, none⟩) 1 cA, .slice none 0 0, .slice none 0 0, .slice none 0 0, .slice none 0 0, .slice none 0 0, .slice none 0 0, .slice none 0 0, .bool false] 93 (0, 0)) := ⟨_, rfl⟩
  have HX3 : Hid (Below w2.heap.size w2 w3) := hide (by rw [hw3]; exact bl_alloc (bl_refl w2) _)
  have HSt0 : Hid (St 0 gx (.slice (some ⟨gA, 0, none⟩) 1 cA) w3) := hide ⟨_, _, _, _, (by rw [hw3]; exact Blk.newG hgx _ _), ⟨fun _ => rfl, fun a => by omega, fun a => by omega⟩, ⟨fun _ => rfl, fun a => by omega, fun a => by omega⟩, ⟨fun _ => rfl, fun a => by omega⟩, ⟨fun _ => rfl, fun a => by omega, fun a => by omega⟩⟩
  rw [← hw3]
  clear hw3 hgx
  have HB3 := hide (HB1.out.trans ((bl_trans HX2.out HX3.out).mono HB1.out.size))
  have HC3 := hide (HC1.out.below (bl_trans HX2.out HX3.out))
  have HP3 := hide (HP1.out.below (bl_trans HX2.out HX3.out))
  have HA3 : Hid (Rd w3 (some ⟨gA, 0, none⟩) [.string AT, .bool false]) := hide (by
    obtain ⟨a1, c1, e, _, hr⟩ := ownG_form (ownG_below HO2.out HX3.out)
    injection e with e1 _ _
    rw [e1]; exact hr)
  have HM3 := hide (HM.out.below HB3.out)
  have HGA := hide (show gA < gx by have := HGX.out; have := HG2.out.2.2; omega)
  have HCX := hide (show w.heap.size + 1 < gx by have := HP1.out.lt; have := HX2.out.size; have := HGX.out; omega)
  clear hsz
  go_loopw [8] (fun kv wr => ∃ k : Nat, k ≤ 6 ∧ kv = .int .i64 (atI k) ∧ Hid (St k gx (.slice (some ⟨gA, 0, none⟩) 1 cA) wr) ∧ Hid (Below gx w3 wr)) (fun kv _ => 35 - (intOf kv).toNat)
  case atStart => exact ⟨0, by omega, rfl, HSt0, hide (Below.refl gx w3)⟩
  case round =>
    obtain ⟨k, hk, hkv, HSt, HBr⟩ := hrel
    have HMr := hide (HM3.out.belowG HBr.out (by have := HCX.out; omega))
    have HAr := hide (rd_belowG HA3.out HBr.out HGA.out HBr.out.size)
    have hk7 : k = 0 ∨ k = 1 ∨ k = 2 ∨ k = 3 ∨ k = 4 ∨ k = 5 ∨ k = 6 := by omega
    clear hk
    rcases hk7 with rfl | rfl | rfl | rfl | rfl | rfl | rfl
    · skip
      replace hkv : _ = Value.int .i64 0 := hkv
      subst hkv
      have hE2 : S.extract 0 35 = S := by rw [HS.out, str_sub rfl]; rfl
      have HXX : Hid (S = bstr (DD.drop 0)) := HS
      have hsz := HSZ.out
      obtain ⟨LN, hLN⟩ : ∃ LN, LN = bstr (L1) := ⟨_, rfl⟩
      have HCUT : Hid (∀ wx, MaxL wx → Calls Tryz.prog 39 #[.string S, .string ⟨#[10]⟩] wx fun e w' => e = .returned (.tuple #[.string LN, .string (bstr (DD.drop 14)), .bool true]) ∧ Below wx.heap.size wx w') := hide (fun wx hx => by rw [HXX.out, hLN]; exact cut_any (DD.drop 0) [10] wx hx (by decide) _ _ _ (by decide))
      have HLN : Hid (∀ wx, St 0 gx (.slice (some ⟨gA, 0, none⟩) 1 cA) wx → MaxL wx → Rd wx (some ⟨gA, 0, none⟩) [.string AT, .bool false] → Calls Tryz.prog 40 #[.pointer (some ⟨gx, 0, none⟩), .string LN] wx fun e w' => e = .returned (.agg #[.int .i64 0, .int .i64 0]) ∧ Below gx wx w' ∧ St (0 + 1) gx (.slice (some ⟨gA, 0, none⟩) 1 cA) w') := hide (fun wx h1 h2 h3 => by rw [hLN]; exact (step0 gx _ wx h1).mono fun e w' ⟨a, b, c⟩ => ⟨a, b.b, c⟩)
      have hln : (LN.size : Int) = 13 := by rw [hLN]; rfl
      have HLNS := hide hln
      clear hLN hln
      go_wp2_with fail
      refine (HCUT.out _ HMr.out).mono ?_
      rintro e w4 ⟨rfl, hb4⟩
      have HB4 := hide (HBr.out.trans (hb4.mono (show gx ≤ wr.heap.size by have := HSt.out.lt; omega)))
      have HS4 := hide (HSt.out.below hb4)
      have HM4 := hide (HMr.out.below hb4)
      have HA4 := hide (HAr.out.below hb4)
      clear hb4
      go_wp2_with fail
      refine (HLN.out _ HS4.out HM4.out HA4.out).mono ?_
      rintro e w5 ⟨rfl, hb5, hs5⟩
      have HB5 := hide (HB4.out.trans hb5)
      have HS5 := hide (hs5.below (bl_alloc (bl_refl w5) (.cells #[.int .i64 0, .int .i64 0] 97 (0, 0))))
      have HB6 := hide (HB5.out.alloc (show gx ≤ w5.heap.size by have := hs5.lt; omega) (.cells #[.int .i64 0, .int .i64 0] 97 (0, 0)))
      have hln := HLNS.out
      clear hb5 hs5
      go_wp2
      go_roundw
      case rel => exact ⟨0 + 1, by omega, rfl, HS5, HB6⟩
      case measure => simp [intOf]
    · skip
      replace hkv : _ = Value.int .i64 14 := hkv
      subst hkv
      obtain ⟨X, hX⟩ : ∃ X, X = bstr (DD.drop 14) := ⟨_, rfl⟩
      have hE1 : S.extract 14 S.size = X := by rw [hX, HS.out, str_sub rfl]; rfl
      have hE2 : S.extract 14 35 = X := by rw [hX, HS.out, str_sub rfl]; rfl
      have HXX := hide hX
      clear hX
      have hsz := HSZ.out
      obtain ⟨LN, hLN⟩ : ∃ LN, LN = bstr (L2) := ⟨_, rfl⟩
      have HCUT : Hid (∀ wx, MaxL wx → Calls Tryz.prog 39 #[.string X, .string ⟨#[10]⟩] wx fun e w' => e = .returned (.tuple #[.string LN, .string (bstr (DD.drop 18)), .bool true]) ∧ Below wx.heap.size wx w') := hide (fun wx hx => by rw [HXX.out, hLN]; exact cut_any (DD.drop 14) [10] wx hx (by decide) _ _ _ (by decide))
      have HLN : Hid (∀ wx, St 1 gx (.slice (some ⟨gA, 0, none⟩) 1 cA) wx → MaxL wx → Rd wx (some ⟨gA, 0, none⟩) [.string AT, .bool false] → Calls Tryz.prog 40 #[.pointer (some ⟨gx, 0, none⟩), .string LN] wx fun e w' => e = .returned (.agg #[.int .i64 0, .int .i64 0]) ∧ Below gx wx w' ∧ St (1 + 1) gx (.slice (some ⟨gA, 0, none⟩) 1 cA) w') := hide (fun wx h1 h2 h3 => by rw [hLN]; exact (step1 gx _ wx h1).mono fun e w' ⟨a, b, c⟩ => ⟨a, b.b, c⟩)
      have hln : (LN.size : Int) = 3 := by rw [hLN]; rfl
      have HLNS := hide hln
      clear hLN hln
      go_wp2_with fail
      refine (HCUT.out _ HMr.out).mono ?_
      rintro e w4 ⟨rfl, hb4⟩
      have HB4 := hide (HBr.out.trans (hb4.mono (show gx ≤ wr.heap.size by have := HSt.out.lt; omega)))
      have HS4 := hide (HSt.out.below hb4)
      have HM4 := hide (HMr.out.below hb4)
      have HA4 := hide (HAr.out.below hb4)
      clear hb4
      go_wp2_with fail
      refine (HLN.out _ HS4.out HM4.out HA4.out).mono ?_
      rintro e w5 ⟨rfl, hb5, hs5⟩
      have HB5 := hide (HB4.out.trans hb5)
      have HS5 := hide (hs5.below (bl_alloc (bl_refl w5) (.cells #[.int .i64 0, .int .i64 0] 97 (0, 0))))
      have HB6 := hide (HB5.out.alloc (show gx ≤ w5.heap.size by have := hs5.lt; omega) (.cells #[.int .i64 0, .int .i64 0] 97 (0, 0)))
      have hln := HLNS.out
      clear hb5 hs5
      go_wp2
      go_roundw
      case rel => exact ⟨1 + 1, by omega, rfl, HS5, HB6⟩
      case measure => simp [intOf]
    · skip
      replace hkv : _ = Value.int .i64 18 := hkv
      subst hkv
      obtain ⟨X, hX⟩ : ∃ X, X = bstr (DD.drop 18) := ⟨_, rfl⟩
      have hE1 : S.extract 18 S.size = X := by rw [hX, HS.out, str_sub rfl]; rfl
      have hE2 : S.extract 18 35 = X := by rw [hX, HS.out, str_sub rfl]; rfl
      have HXX := hide hX
      clear hX
      have hsz := HSZ.out
      obtain ⟨LN, hLN⟩ : ∃ LN, LN = bstr ([97]) := ⟨_, rfl⟩
      have HCUT : Hid (∀ wx, MaxL wx → Calls Tryz.prog 39 #[.string X, .string ⟨#[10]⟩] wx fun e w' => e = .returned (.tuple #[.string LN, .string (bstr (DD.drop 20)), .bool true]) ∧ Below wx.heap.size wx w') := hide (fun wx hx => by rw [HXX.out, hLN]; exact cut_any (DD.drop 18) [10] wx hx (by decide) _ _ _ (by decide))
      have HLN : Hid (∀ wx, St 2 gx (.slice (some ⟨gA, 0, none⟩) 1 cA) wx → MaxL wx → Rd wx (some ⟨gA, 0, none⟩) [.string AT, .bool false] → Calls Tryz.prog 40 #[.pointer (some ⟨gx, 0, none⟩), .string LN] wx fun e w' => e = .returned (.agg #[.int .i64 0, .int .i64 0]) ∧ Below gx wx w' ∧ St (2 + 1) gx (.slice (some ⟨gA, 0, none⟩) 1 cA) w') := hide (fun wx h1 h2 h3 => by rw [hLN]; exact (step2 gx _ _ AT wx h1 h2 (by have := HCX.out; omega) h3).mono fun e w' ⟨a, b, c⟩ => ⟨a, b.b, c⟩)
      have hln : (LN.size : Int) = 1 := by rw [hLN]; rfl
      have HLNS := hide hln
      clear hLN hln
      go_wp2_with fail
      refine (HCUT.out _ HMr.out).mono ?_
      rintro e w4 ⟨rfl, hb4⟩
      have HB4 := hide (HBr.out.trans (hb4.mono (show gx ≤ wr.heap.size by have := HSt.out.lt; omega)))
      have HS4 := hide (HSt.out.below hb4)
      have HM4 := hide (HMr.out.below hb4)
      have HA4 := hide (HAr.out.below hb4)
      clear hb4
      go_wp2_with fail
      refine (HLN.out _ HS4.out HM4.out HA4.out).mono ?_
      rintro e w5 ⟨rfl, hb5, hs5⟩
      have HB5 := hide (HB4.out.trans hb5)
      have HS5 := hide (hs5.below (bl_alloc (bl_refl w5) (.cells #[.int .i64 0, .int .i64 0] 97 (0, 0))))
      have HB6 := hide (HB5.out.alloc (show gx ≤ w5.heap.size by have := hs5.lt; omega) (.cells #[.int .i64 0, .int .i64 0] 97 (0, 0)))
      have hln := HLNS.out
      clear hb5 hs5
      go_wp2
      go_roundw
      case rel => exact ⟨2 + 1, by omega, rfl, HS5, HB6⟩
      case measure => simp [intOf]
    · skip
      replace hkv : _ = Value.int .i64 20 := hkv
      subst hkv
      obtain ⟨X, hX⟩ : ∃ X, X = bstr (DD.drop 20) := ⟨_, rfl⟩
      have hE1 : S.extract 20 S.size = X := by rw [hX, HS.out, str_sub rfl]; rfl
      have hE2 : S.extract 20 35 = X := by rw [hX, HS.out, str_sub rfl]; rfl
      have HXX := hide hX
      clear hX
      have hsz := HSZ.out
      obtain ⟨LN, hLN⟩ : ∃ LN, LN = bstr (L4) := ⟨_, rfl⟩
      have HCUT : Hid (∀ wx, MaxL wx → Calls Tryz.prog 39 #[.string X, .string ⟨#[10]⟩] wx fun e w' => e = .returned (.tuple #[.string LN, .string (bstr (DD.drop 25)), .bool true]) ∧ Below wx.heap.size wx w') := hide (fun wx hx => by rw [HXX.out, hLN]; exact cut_any (DD.drop 20) [10] wx hx (by decide) _ _ _ (by decide))
      have HLN : Hid (∀ wx, St 3 gx (.slice (some ⟨gA, 0, none⟩) 1 cA) wx → MaxL wx → Rd wx (some ⟨gA, 0, none⟩) [.string AT, .bool false] → Calls Tryz.prog 40 #[.pointer (some ⟨gx, 0, none⟩), .string LN] wx fun e w' => e = .returned (.agg #[.int .i64 0, .int .i64 0]) ∧ Below gx wx w' ∧ St (3 + 1) gx (.slice (some ⟨gA, 0, none⟩) 1 cA) w') := hide (fun wx h1 h2 h3 => by rw [hLN]; exact (step3 gx _ wx h1).mono fun e w' ⟨a, b, c⟩ => ⟨a, b.b, c⟩)
      have hln : (LN.size : Int) = 4 := by rw [hLN]; rfl
      have HLNS := hide hln
      clear hLN hln
      go_wp2_with fail
      refine (HCUT.out _ HMr.out).mono ?_
      rintro e w4 ⟨rfl, hb4⟩
      have HB4 := hide (HBr.out.trans (hb4.mono (show gx ≤ wr.heap.size by have := HSt.out.lt; omega)))
      have HS4 := hide (HSt.out.below hb4)
      have HM4 := hide (HMr.out.below hb4)
      have HA4 := hide (HAr.out.below hb4)
      clear hb4
      go_wp2_with fail
      refine (HLN.out _ HS4.out HM4.out HA4.out).mono ?_
      rintro e w5 ⟨rfl, hb5, hs5⟩
      have HB5 := hide (HB4.out.trans hb5)
      have HS5 := hide (hs5.below (bl_alloc (bl_refl w5) (.cells #[.int .i64 0, .int .i64 0] 97 (0, 0))))
      have HB6 := hide (HB5.out.alloc (show gx ≤ w5.heap.size by have := hs5.lt; omega) (.cells #[.int .i64 0, .int .i64 0] 97 (0, 0)))
      have hln := HLNS.out
      clear hb5 hs5
      go_wp2
      go_roundw
      case rel => exact ⟨3 + 1, by omega, rfl, HS5, HB6⟩
      case measure => simp [intOf]
    · skip
      replace hkv : _ = Value.int .i64 25 := hkv
      subst hkv
      obtain ⟨X, hX⟩ : ∃ X, X = bstr (DD.drop 25) := ⟨_, rfl⟩
      have hE1 : S.extract 25 S.size = X := by rw [hX, HS.out, str_sub rfl]; rfl
      have hE2 : S.extract 25 35 = X := by rw [hX, HS.out, str_sub rfl]; rfl
      have HXX := hide hX
      clear hX
      have hsz := HSZ.out
      obtain ⟨LN, hLN⟩ : ∃ LN, LN = bstr ([98]) := ⟨_, rfl⟩
      have HCUT : Hid (∀ wx, MaxL wx → Calls Tryz.prog 39 #[.string X, .string ⟨#[10]⟩] wx fun e w' => e = .returned (.tuple #[.string LN, .string (bstr (DD.drop 27)), .bool true]) ∧ Below wx.heap.size wx w') := hide (fun wx hx => by rw [HXX.out, hLN]; exact cut_any (DD.drop 25) [10] wx hx (by decide) _ _ _ (by decide))
      have HLN : Hid (∀ wx, St 4 gx (.slice (some ⟨gA, 0, none⟩) 1 cA) wx → MaxL wx → Rd wx (some ⟨gA, 0, none⟩) [.string AT, .bool false] → Calls Tryz.prog 40 #[.pointer (some ⟨gx, 0, none⟩), .string LN] wx fun e w' => e = .returned (.agg #[.int .i64 0, .int .i64 0]) ∧ Below gx wx w' ∧ St (4 + 1) gx (.slice (some ⟨gA, 0, none⟩) 1 cA) w') := hide (fun wx h1 h2 h3 => by rw [hLN]; exact (step4 gx _ _ AT wx h1 h2 (by have := HCX.out; omega) h3).mono fun e w' ⟨a, b, c⟩ => ⟨a, b.b, c⟩)
      have hln : (LN.size : Int) = 1 := by rw [hLN]; rfl
      have HLNS := hide hln
      clear hLN hln
      go_wp2_with fail
      refine (HCUT.out _ HMr.out).mono ?_
      rintro e w4 ⟨rfl, hb4⟩
      have HB4 := hide (HBr.out.trans (hb4.mono (show gx ≤ wr.heap.size by have := HSt.out.lt; omega)))
      have HS4 := hide (HSt.out.below hb4)
      have HM4 := hide (HMr.out.below hb4)
      have HA4 := hide (HAr.out.below hb4)
      clear hb4
      go_wp2_with fail
      refine (HLN.out _ HS4.out HM4.out HA4.out).mono ?_
      rintro e w5 ⟨rfl, hb5, hs5⟩
      have HB5 := hide (HB4.out.trans hb5)
      have HS5 := hide (hs5.below (bl_alloc (bl_refl w5) (.cells #[.int .i64 0, .int .i64 0] 97 (0, 0))))
      have HB6 := hide (HB5.out.alloc (show gx ≤ w5.heap.size by have := hs5.lt; omega) (.cells #[.int .i64 0, .int .i64 0] 97 (0, 0)))
      have hln := HLNS.out
      clear hb5 hs5
      go_wp2
      go_roundw
      case rel => exact ⟨4 + 1, by omega, rfl, HS5, HB6⟩
      case measure => simp [intOf]
    · skip
      replace hkv : _ = Value.int .i64 27 := hkv
      subst hkv
      obtain ⟨X, hX⟩ : ∃ X, X = bstr (DD.drop 27) := ⟨_, rfl⟩
      have hE1 : S.extract 27 S.size = X := by rw [hX, HS.out, str_sub rfl]; rfl
      have hE2 : S.extract 27 35 = X := by rw [hX, HS.out, str_sub rfl]; rfl
      have HXX := hide hX
      clear hX
      have hsz := HSZ.out
      obtain ⟨LN, hLN⟩ : ∃ LN, LN = bstr (L6) := ⟨_, rfl⟩
      have HCUT : Hid (∀ wx, MaxL wx → Calls Tryz.prog 39 #[.string X, .string ⟨#[10]⟩] wx fun e w' => e = .returned (.tuple #[.string LN, .string (bstr (DD.drop 35)), .bool true]) ∧ Below wx.heap.size wx w') := hide (fun wx hx => by rw [HXX.out, hLN]; exact cut_any (DD.drop 27) [10] wx hx (by decide) _ _ _ (by decide))
      have HLN : Hid (∀ wx, St 5 gx (.slice (some ⟨gA, 0, none⟩) 1 cA) wx → MaxL wx → Rd wx (some ⟨gA, 0, none⟩) [.string AT, .bool false] → Calls Tryz.prog 40 #[.pointer (some ⟨gx, 0, none⟩), .string LN] wx fun e w' => e = .returned (.agg #[.int .i64 0, .int .i64 0]) ∧ Below gx wx w' ∧ St (5 + 1) gx (.slice (some ⟨gA, 0, none⟩) 1 cA) w') := hide (fun wx h1 h2 h3 => by rw [hLN]; exact (step5 gx _ wx h1).mono fun e w' ⟨a, b, c⟩ => ⟨a, b.b, c⟩)
      have hln : (LN.size : Int) = 7 := by rw [hLN]; rfl
      have HLNS := hide hln
      clear hLN hln
      go_wp2_with fail
      refine (HCUT.out _ HMr.out).mono ?_
      rintro e w4 ⟨rfl, hb4⟩
      have HB4 := hide (HBr.out.trans (hb4.mono (show gx ≤ wr.heap.size by have := HSt.out.lt; omega)))
      have HS4 := hide (HSt.out.below hb4)
      have HM4 := hide (HMr.out.below hb4)
      have HA4 := hide (HAr.out.below hb4)
      clear hb4
      go_wp2_with fail
      refine (HLN.out _ HS4.out HM4.out HA4.out).mono ?_
      rintro e w5 ⟨rfl, hb5, hs5⟩
      have HB5 := hide (HB4.out.trans hb5)
      have HS5 := hide (hs5.below (bl_alloc (bl_refl w5) (.cells #[.int .i64 0, .int .i64 0] 97 (0, 0))))
      have HB6 := hide (HB5.out.alloc (show gx ≤ w5.heap.size by have := hs5.lt; omega) (.cells #[.int .i64 0, .int .i64 0] 97 (0, 0)))
      have hln := HLNS.out
      clear hb5 hs5
      go_wp2
      go_roundw
      case rel => exact ⟨5 + 1, by omega, rfl, HS5, HB6⟩
      case measure => simp [intOf]
    · replace hkv : _ = Value.int .i64 35 := hkv
      subst hkv
      obtain ⟨vT, vX, vR, vO, h1, h2, h3, h4, h5⟩ := HSt.out
      have ht := h2.2.2 (by omega)
      have hx := h3.2.2 (by omega)
      have hrg := h4.2 (by omega)
      obtain ⟨oa, oc, rfl⟩ := h5.2.2 (by omega)
      obtain ⟨ts, ht1, ht2⟩ := id ht
      change wr.ownsRow (gx + 1) 28 1 vT 2 ts at ht1
      obtain ⟨ta, tc, rfl, _, _⟩ := ownG_form ht1
      obtain ⟨xa, xc, rfl, _, _⟩ := ownG_form hx
      obtain ⟨ra, rc, rfl, _, hrr⟩ := ownG_form hrg
      have HT := hide ht
      have HX := hide hx
      have HRD := hide hrr
      have HR := hide h1
      have HCr := hide (Blk.kept HC3.out (HBr.out.block _ (by have := HCX.out; omega)))
      have HPr := hide (Blk.kept HP3.out (HBr.out.block _ (by have := HCX.out; omega)))
      have hsz := HSZ.out
      have r8 := Blk.cell h1 (k := 8) rfl
      have r3 := Blk.cell h1 (k := 3) rfl
      rw [show tbOf 6 = false from rfl] at r8
      clear ht hx hrg ht1 ht2 hrr h1 h2 h3 h4 h5 HSt
      obtain ⟨R1, hR1⟩ : ∃ R1, R1 = bstr [115] := ⟨_, rfl⟩
      have HR1 := hide hR1
      have HSR : Hid (∀ wx, Below wr.heap.size wr wx → Calls Tryz.prog 42 #[.slice ra 1 rc] wx (SortRP R1 wx)) := hide (fun wx hx => sortR_any ra rc R1 wx (by rw [hR1]; exact HRD.out.below hx))
      clear hR1
      go_wp2_with fail
      refine (HSR.out _ (bl_refl wr)).mono ?_
      rintro e w5 ⟨v5, rfl, ho5, hb5⟩
      obtain ⟨gR, cR, hv, hcR, hgb, hgl⟩ := ownG_pos ho5 (by omega)
      subst hv
      have HR5 : Hid (RdB w5 gx (.slice (some ⟨gA, 0, none⟩) 1 cA) (.slice ta 2 tc) (.slice xa 1 xc) (.slice ra 1 rc) (.slice oa 0 oc) false) := hide (Blk.below HR.out hb5)
      have HT5 := hide (HT.out.below hb5)
      have HX5 := hide (ownG_below HX.out hb5)
      have HC5 := hide (HCr.out.below hb5)
      have HP5 := hide (HPr.out.below hb5)
      have HA5 := hide (HAr.out.below hb5)
      have HO5 := hide (ownG_mono (base' := gx + 1) ho5 (by have := Blk.lt HR.out; omega))
      have HB5 := hide (HBr.out.trans (hb5.mono (Nat.le_of_lt (Blk.lt HR.out))))
      clear ho5 hb5 r8 r3 hgb hgl hcR
      obtain ⟨g0, hg0⟩ : ∃ g0, g0 = w.heap.size := ⟨_, rfl⟩
      have HG0 := hide hg0
      rw [← hg0] at HC5 HP5 HCX ⊢
      have hgn : g0 < gx ∧ g0 + 1 < gx := ⟨by have := HCX.out; omega, HCX.out⟩
      have HGN := hide hgn
      clear hg0 hgn
      have r3 := Blk.cell HR5.out (k := 3) rfl
      have f3 := Blk.fr HR5.out 3
      have HR6 : Hid (RdB (w5.setCell ⟨gx, 3, none⟩ (.slice (some ⟨gR, 0, none⟩) 1 cR)) gx (.slice (some ⟨gA, 0, none⟩) 1 cA) (.slice ta 2 tc) (.slice xa 1 xc) (.slice (some ⟨gR, 0, none⟩) 1 cR) (.slice oa 0 oc) false) := hide (Blk.set HR5.out 3 _)
      have q0 := Blk.cell HR6.out (k := 0) rfl
      have q1 := Blk.cell HR6.out (k := 1) rfl
      have q2 := Blk.cell HR6.out (k := 2) rfl
      have q3 := Blk.cell HR6.out (k := 3) rfl
      have q4 := Blk.cell HR6.out (k := 4) rfl
      have q5 := Blk.cell HR6.out (k := 5) rfl
      have q6 := Blk.cell HR6.out (k := 6) rfl
      have HCa := hide (HC5.out.setne (g' := gx) (by have := HGN.out; omega) 3 (.slice (some ⟨gR, 0, none⟩) 1 cR))
      have HPa := hide (HP5.out.setne (g' := gx) (by have := HGN.out; omega) 3 (.slice (some ⟨gR, 0, none⟩) 1 cR))
      have c0 := HCa.out.cell (k := 0) rfl
      have d0 := HCa.out.fr 0
      have HC60 := hide (HCa.out.set 0 (.slice (some ⟨gA, 0, none⟩) 1 cA))
      have HP60 := hide (HPa.out.setne (g' := g0) (by omega) 0 (.slice (some ⟨gA, 0, none⟩) 1 cA))
      have c1 := HC60.out.cell (k := 1) rfl
      have d1 := HC60.out.fr 1
      have HC61 := hide (HC60.out.set 1 (.slice ta 2 tc))
      have HP61 := hide (HP60.out.setne (g' := g0) (by omega) 1 (.slice ta 2 tc))
      have c2 := HC61.out.cell (k := 2) rfl
      have d2 := HC61.out.fr 2
      have HC62 := hide (HC61.out.set 2 (.slice xa 1 xc))
      have HP62 := hide (HP61.out.setne (g' := g0) (by omega) 2 (.slice xa 1 xc))
      have c3 := HC62.out.cell (k := 3) rfl
      have d3 := HC62.out.fr 3
      have HC63 := hide (HC62.out.set 3 (.slice (some ⟨gR, 0, none⟩) 1 cR))
      have HP63 := hide (HP62.out.setne (g' := g0) (by omega) 3 (.slice (some ⟨gR, 0, none⟩) 1 cR))
      have c4 := HC63.out.cell (k := 4) rfl
      have d4 := HC63.out.fr 4
      have HC64 := hide (HC63.out.set 4 (.slice none 0 0))
      have HP64 := hide (HP63.out.setne (g' := g0) (by omega) 4 (.slice none 0 0))
      have c5 := HC64.out.cell (k := 5) rfl
      have d5 := HC64.out.fr 5
      have HC65 := hide (HC64.out.set 5 (.slice none 0 0))
      have HP65 := hide (HP64.out.setne (g' := g0) (by omega) 5 (.slice none 0 0))
      have c6 := HC65.out.cell (k := 6) rfl
      have d6 := HC65.out.fr 6
      have HC66 := hide (HC65.out.set 6 (.slice none 0 0))
      have HP66 := hide (HP65.out.setne (g' := g0) (by omega) 6 (.slice none 0 0))
      have p0 := HP66.out.cell (k := 0) rfl
      have o0 := HP66.out.fr 0
      have HP70 := hide (HP66.out.set 0 (.int .i64 0))
      have HC70 := hide (HC66.out.setne (g' := g0 + 1) (by omega) 0 (.int .i64 0))
      have p1 := HP70.out.cell (k := 1) rfl
      have o1 := HP70.out.fr 1
      have HP71 := hide (HP70.out.set 1 (.int .i64 0))
      have HC71 := hide (HC70.out.setne (g' := g0 + 1) (by omega) 1 (.int .i64 0))
      have e0 := HC71.out.cell (k := 0) rfl
      have e1 := HC71.out.cell (k := 1) rfl
      have e2 := HC71.out.cell (k := 2) rfl
      have e3 := HC71.out.cell (k := 3) rfl
      have e4 := HC71.out.cell (k := 4) rfl
      have e5 := HC71.out.cell (k := 5) rfl
      have e6 := HC71.out.cell (k := 6) rfl
      have j0 := HP71.out.cell (k := 0) rfl
      have j1 := HP71.out.cell (k := 1) rfl
      go_wp2
      have HBF : Below w.heap.size w w5 := HB3.out.trans (HB5.out.mono (by have := HGN.out; have := HG0.out; omega))
      have hx8 := ownG_setlt (ownG_setlt (ownG_setlt (ownG_setlt (ownG_setlt (ownG_setlt (ownG_setlt (ownG_setlt (ownG_setlt (ownG_setlt (HX5.out) (g := gx) (by have := HGN.out; omega) 3 (.slice (some ⟨gR, 0, none⟩) 1 cR)) (g := g0) (by have := HGN.out; omega) 0 (.slice (some ⟨gA, 0, none⟩) 1 cA)) (g := g0) (by have := HGN.out; omega) 1 (.slice ta 2 tc)) (g := g0) (by have := HGN.out; omega) 2 (.slice xa 1 xc)) (g := g0) (by have := HGN.out; omega) 3 (.slice (some ⟨gR, 0, none⟩) 1 cR)) (g := g0) (by have := HGN.out; omega) 4 (.slice none 0 0)) (g := g0) (by have := HGN.out; omega) 5 (.slice none 0 0)) (g := g0) (by have := HGN.out; omega) 6 (.slice none 0 0)) (g := g0 + 1) (by have := HGN.out; omega) 0 (.int .i64 0)) (g := g0 + 1) (by have := HGN.out; omega) 1 (.int .i64 0)
      have hr8 := ownG_setlt (ownG_setlt (ownG_setlt (ownG_setlt (ownG_setlt (ownG_setlt (ownG_setlt (ownG_setlt (ownG_setlt (ownG_setlt (HO5.out) (g := gx) (by have := HGN.out; omega) 3 (.slice (some ⟨gR, 0, none⟩) 1 cR)) (g := g0) (by have := HGN.out; omega) 0 (.slice (some ⟨gA, 0, none⟩) 1 cA)) (g := g0) (by have := HGN.out; omega) 1 (.slice ta 2 tc)) (g := g0) (by have := HGN.out; omega) 2 (.slice xa 1 xc)) (g := g0) (by have := HGN.out; omega) 3 (.slice (some ⟨gR, 0, none⟩) 1 cR)) (g := g0) (by have := HGN.out; omega) 4 (.slice none 0 0)) (g := g0) (by have := HGN.out; omega) 5 (.slice none 0 0)) (g := g0) (by have := HGN.out; omega) 6 (.slice none 0 0)) (g := g0 + 1) (by have := HGN.out; omega) 0 (.int .i64 0)) (g := g0 + 1) (by have := HGN.out; omega) 1 (.int .i64 0)
      have ht8 := TokR.setlt (TokR.setlt (TokR.setlt (TokR.setlt (TokR.setlt (TokR.setlt (TokR.setlt (TokR.setlt (TokR.setlt (TokR.setlt (HT5.out) (g := gx) (by have := HGN.out; omega) 3 (.slice (some ⟨gR, 0, none⟩) 1 cR)) (g := g0) (by have := HGN.out; omega) 0 (.slice (some ⟨gA, 0, none⟩) 1 cA)) (g := g0) (by have := HGN.out; omega) 1 (.slice ta 2 tc)) (g := g0) (by have := HGN.out; omega) 2 (.slice xa 1 xc)) (g := g0) (by have := HGN.out; omega) 3 (.slice (some ⟨gR, 0, none⟩) 1 cR)) (g := g0) (by have := HGN.out; omega) 4 (.slice none 0 0)) (g := g0) (by have := HGN.out; omega) 5 (.slice none 0 0)) (g := g0) (by have := HGN.out; omega) 6 (.slice none 0 0)) (g := g0 + 1) (by have := HGN.out; omega) 0 (.int .i64 0)) (g := g0 + 1) (by have := HGN.out; omega) 1 (.int .i64 0)
      have ha8 := rd_setne (rd_setne (rd_setne (rd_setne (rd_setne (rd_setne (rd_setne (rd_setne (rd_setne (rd_setne (HA5.out) (g := gx) (fun b hb => by injection hb with hb; subst hb; have := HGN.out; have := HGA.out; have := HG2.out; have := HG0.out; simp only; omega) 3 (.slice (some ⟨gR, 0, none⟩) 1 cR)) (g := g0) (fun b hb => by injection hb with hb; subst hb; have := HGN.out; have := HGA.out; have := HG2.out; have := HG0.out; simp only; omega) 0 (.slice (some ⟨gA, 0, none⟩) 1 cA)) (g := g0) (fun b hb => by injection hb with hb; subst hb; have := HGN.out; have := HGA.out; have := HG2.out; have := HG0.out; simp only; omega) 1 (.slice ta 2 tc)) (g := g0) (fun b hb => by injection hb with hb; subst hb; have := HGN.out; have := HGA.out; have := HG2.out; have := HG0.out; simp only; omega) 2 (.slice xa 1 xc)) (g := g0) (fun b hb => by injection hb with hb; subst hb; have := HGN.out; have := HGA.out; have := HG2.out; have := HG0.out; simp only; omega) 3 (.slice (some ⟨gR, 0, none⟩) 1 cR)) (g := g0) (fun b hb => by injection hb with hb; subst hb; have := HGN.out; have := HGA.out; have := HG2.out; have := HG0.out; simp only; omega) 4 (.slice none 0 0)) (g := g0) (fun b hb => by injection hb with hb; subst hb; have := HGN.out; have := HGA.out; have := HG2.out; have := HG0.out; simp only; omega) 5 (.slice none 0 0)) (g := g0) (fun b hb => by injection hb with hb; subst hb; have := HGN.out; have := HGA.out; have := HG2.out; have := HG0.out; simp only; omega) 6 (.slice none 0 0)) (g := g0 + 1) (fun b hb => by injection hb with hb; subst hb; have := HGN.out; have := HGA.out; have := HG2.out; have := HG0.out; simp only; omega) 0 (.int .i64 0)) (g := g0 + 1) (fun b hb => by injection hb with hb; subst hb; have := HGN.out; have := HGA.out; have := HG2.out; have := HG0.out; simp only; omega) 1 (.int .i64 0)
      have hb8 := bl_set (bl_set (bl_set (bl_set (bl_set (bl_set (bl_set (bl_set (bl_set (bl_set (HBF) (p := ⟨gx, 3, none⟩) (by have := HGN.out; have := HG0.out; simp only; omega) (.slice (some ⟨gR, 0, none⟩) 1 cR)) (p := ⟨g0, 0, none⟩) (by have := HGN.out; have := HG0.out; simp only; omega) (.slice (some ⟨gA, 0, none⟩) 1 cA)) (p := ⟨g0, 1, none⟩) (by have := HGN.out; have := HG0.out; simp only; omega) (.slice ta 2 tc)) (p := ⟨g0, 2, none⟩) (by have := HGN.out; have := HG0.out; simp only; omega) (.slice xa 1 xc)) (p := ⟨g0, 3, none⟩) (by have := HGN.out; have := HG0.out; simp only; omega) (.slice (some ⟨gR, 0, none⟩) 1 cR)) (p := ⟨g0, 4, none⟩) (by have := HGN.out; have := HG0.out; simp only; omega) (.slice none 0 0)) (p := ⟨g0, 5, none⟩) (by have := HGN.out; have := HG0.out; simp only; omega) (.slice none 0 0)) (p := ⟨g0, 6, none⟩) (by have := HGN.out; have := HG0.out; simp only; omega) (.slice none 0 0)) (p := ⟨g0 + 1, 0, none⟩) (by have := HGN.out; have := HG0.out; simp only; omega) (.int .i64 0)) (p := ⟨g0 + 1, 1, none⟩) (by have := HGN.out; have := HG0.out; simp only; omega) (.int .i64 0)
      obtain ⟨xa2, xc2, ex, _, hxr⟩ := ownG_form hx8
      injection ex with ex1 _ _
      subst ex1
      obtain ⟨ra2, rc2, er, _, hrr⟩ := ownG_form hr8
      injection er with er1 _ _
      subst er1
      refine bodyPost_ret (v := .tuple #[.agg #[.slice (some ⟨gA, 0, none⟩) 1 cA, .slice ta 2 tc, .slice xa 1 xc, .slice (some ⟨gR, 0, none⟩) 1 cR, .slice none 0 0, .slice none 0 0, .slice none 0 0], .agg #[.int .i64 0, .int .i64 0], .int .i64 0]) (by simp [results, Tryz.results27, go_sem, e0, e1, e2, e3, e4, e5, e6, j0, j1]) rfl ⟨⟨⟨some ⟨gA, 0, none⟩, 1, cA⟩, ⟨ta, 2, tc⟩, ⟨xa, 1, xc⟩, ⟨some ⟨gR, 0, none⟩, 1, cR⟩, ⟨none, 0, 0⟩, ⟨none, 0, 0⟩, ⟨none, 0, 0⟩⟩, rfl, hb8, ?_⟩
      refine ⟨⟨rfl, by have := HG2.out.1; simp only; omega, by rw [← HAT.out]; exact ha8⟩, ⟨rfl, (ht8.tokV (by intro c hc; simp at hc; rcases hc with rfl | rfl; exact plain_a; exact plain_b)).2⟩, ⟨rfl, hxr⟩, ⟨rfl, by rw [HR1.out] at hrr; exact hrr⟩, rfl, rfl, rfl⟩
end Go.Proofs.YtbpkclopcoaikaaGreatDoor
