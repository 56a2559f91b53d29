/- The reader of the example: its state before each line, and each line's walk. -/
import Derived.Test.YtbpkclopcoaikaaGreatDoorMh
import Derived.Test.YtbpkclopcoaikaaGreatDoorMg
namespace Go.Proofs.YtbpkclopcoaikaaGreatDoor
open Go.RowKit
set_option linter.unusedVariables false
set_option linter.unusedSimpArgs false
def nilS : Value := .slice none 0 0
def TS (k : Nat) (gx : Nat) (v : Value) (w : World) : Prop := (k < 3 → v = .slice none 0 0) ∧ (3 ≤ k → k < 5 → TokR w (gx + 1) v [97]) ∧ (5 ≤ k → TokR w (gx + 1) v [97, 98])
def XS (k : Nat) (gx : Nat) (v : Value) (w : World) : Prop := (k < 1 → v = .slice none 0 0) ∧ (1 ≤ k → k < 6 → w.ownsRow (gx + 1) 88 4 v 1 (txtV (0, -1))) ∧ (6 ≤ k → w.ownsRow (gx + 1) 88 4 v 1 (txtV (0, 2)))
def RS (k : Nat) (gx : Nat) (v : Value) (w : World) : Prop := (k < 4 → v = .slice none 0 0) ∧ (4 ≤ k → w.ownsRow (gx + 1) 76 4 v 1 (regV (0, 1)))
def OS (k : Nat) (gx : Nat) (v : Value) (w : World) : Prop := (k < 2 → v = .slice none 0 0) ∧ (2 ≤ k → k < 4 → w.ownsRow (gx + 1) 76 4 v 1 (regV (0, 0))) ∧ (4 ≤ k → ∃ a c, v = .slice a 0 c)
def tbOf (k : Nat) : Bool := decide (1 ≤ k) && decide (k < 6)
/-- The reader's state before line k. -/
def St (k : Nat) (gx : Nat) (vA : Value) (w : World) : Prop := ∃ vT vX vR vO, RdB w gx vA vT vX vR vO (tbOf k) ∧ TS k gx vT w ∧ XS k gx vX w ∧ RS k gx vR w ∧ OS k gx vO w
theorem St.setne {k gx n0 : Nat} {vA : Value} {w : World} {cs : List Value} (hn : gx < n0) (hb : Blk w n0 cs 97) (h : St k gx vA w) (j : Nat) (u : Value) : St k gx vA (w.setCell ⟨n0, j, none⟩ u) := by
  obtain ⟨vT, vX, vR, vO, h1, h2, h3, h4, h5⟩ := h
  refine ⟨vT, vX, vR, vO, Blk.setne h1 (by omega) j u, ⟨h2.1, fun a b => (h2.2.1 a b).setne hb j u, fun a => (h2.2.2 a).setne hb j u⟩, ⟨h3.1, fun a b => ownG_setne (h3.2.1 a b) (own_ne_blk (h3.2.1 a b) hb (by decide)) j u, fun a => ownG_setne (h3.2.2 a) (own_ne_blk (h3.2.2 a) hb (by decide)) j u⟩, ⟨h4.1, fun a => ownG_setne (h4.2 a) (own_ne_blk (h4.2 a) hb (by decide)) j u⟩, ⟨h5.1, fun a b => ownG_setne (h5.2.1 a b) (own_ne_blk (h5.2.1 a b) hb (by decide)) j u, h5.2.2⟩⟩
theorem St.below {k gx : Nat} {vA : Value} {w w' : World} (h : St k gx vA w) (hb : Below w.heap.size w w') : St k gx vA w' := by
  obtain ⟨vT, vX, vR, vO, h1, h2, h3, h4, h5⟩ := h
  exact ⟨vT, vX, vR, vO, Blk.below h1 hb, ⟨h2.1, fun a b => (h2.2.1 a b).below hb, fun a => (h2.2.2 a).below hb⟩, ⟨h3.1, fun a b => ownG_below (h3.2.1 a b) hb, fun a => ownG_below (h3.2.2 a) hb⟩, ⟨h4.1, fun a => ownG_below (h4.2 a) hb⟩, ⟨h5.1, fun a b => ownG_below (h5.2.1 a b) hb, h5.2.2⟩⟩
theorem St.lt {k gx : Nat} {vA : Value} {w : World} (h : St k gx vA w) : gx < w.heap.size := by
  obtain ⟨vT, vX, vR, vO, h1, _⟩ := h
  exact Blk.lt h1
/-- 1: the text's tag. -/
theorem step0 (gx : Nat) (vA : Value) (w : World) (h : St 0 gx vA w) : Calls Tryz.prog 40 #[.pointer (some ⟨gx, 0, none⟩), .string (bstr L1)] w (LnP gx 88 (St 1 gx vA) w) := by
  refine lineT_any gx _ (by decide) L1 [116, 101, 120, 116] false true (some (bstr [105, 100], bstr [116])) (St 1 gx vA) w h.lt tagL1 (by decide) (by decide) ?_ (fun n0 k u cs wx hn hb hq => hq.setne hn hb k u)
  intro v wx hb hk
  obtain ⟨vT, vX, vR, vO, h1, h2, h3, h4, h5⟩ := h.below hb
  obtain rfl := h2.1 (by omega)
  obtain rfl := h3.1 (by omega)
  obtain rfl := h4.1 (by omega)
  obtain rfl := h5.1 (by omega)
  obtain ⟨ka, kc, rfl, _, hrd⟩ := ownG_form (show wx.ownsRow w.heap.size 108 2 v 1 [.string (bstr [105, 100]), .string (bstr [116])] from hk)
  refine (begT_any gx vA _ _ ka kc wx h1 hrd).mono ?_
  rintro e w' ⟨rfl, hbl, vX, hr, hx, hkg⟩
  exact ⟨rfl, .kg _ hkg (Nat.le_of_lt (Blk.lt h1)), _, vX, _, _, hr, ⟨fun _ => rfl, fun a => by omega, fun a => by omega⟩, ⟨fun a => by omega, fun _ _ => hx, fun a => by omega⟩, ⟨fun _ => rfl, fun a => by omega⟩, ⟨fun _ => rfl, fun a => by omega, fun a => by omega⟩⟩
/-- 2: the region's tag. -/
theorem step1 (gx : Nat) (vA : Value) (w : World) (h : St 1 gx vA w) : Calls Tryz.prog 40 #[.pointer (some ⟨gx, 0, none⟩), .string (bstr L2)] w (LnP gx 71 (St 2 gx vA) w) := by
  refine lineT_any gx _ (by decide) L2 [115] false false none (St 2 gx vA) w h.lt tagL2 (by decide) (by decide) ?_ (fun n0 k u cs wx hn hb hq => hq.setne hn hb k u)
  intro v wx hb hk
  obtain ⟨vT, vX, vR, vO, h1, h2, h3, h4, h5⟩ := h.below hb
  obtain rfl := h2.1 (by omega)
  obtain rfl := h4.1 (by omega)
  obtain rfl := h5.1 (by omega)
  obtain rfl : v = .slice none 0 0 := hk
  have hx := h3.2.1 (by omega) (by omega)
  refine (begR_any gx vA vX wx h1).mono ?_
  rintro e w' ⟨rfl, hkg, vO, hr, ho⟩
  have hkr := KR.kg 71 hkg (Nat.le_of_lt (Blk.lt h1))
  exact ⟨rfl, hkr, _, vX, _, vO, hr, ⟨fun _ => rfl, fun a => by omega, fun a => by omega⟩, ⟨fun a => by omega, fun _ _ => hkr.r _ _ _ _ _ _ (by omega) (by decide) hx, fun a => by omega⟩, ⟨fun _ => rfl, fun a => by omega⟩, ⟨fun a => by omega, fun _ _ => ho, fun a => by omega⟩⟩
/-- 3: the first token. -/
theorem step2 (gx : Nat) (aA : Option Addr) (cA : Nat) (AT : ByteArray) (w : World) (h : St 2 gx (.slice aA 1 cA) w) (hm : MaxL w) (h0 : 0 < gx) (hA : Rd w aA [.string AT, .bool false]) : Calls Tryz.prog 40 #[.pointer (some ⟨gx, 0, none⟩), .string (bstr [97])] w (LnP gx 28 (St 3 gx (.slice aA 1 cA)) w) := by
  obtain ⟨vT, vX, vR, vO, h1, h2, h3, h4, h5⟩ := h
  obtain rfl := h2.1 (by omega)
  have hx := h3.2.1 (by omega) (by omega)
  have ho := h5.2.1 (by omega) (by omega)
  refine (lineK_any gx _ vX vR vO aA cA AT [] 97 w hm h0 h1 hA ⟨[], World.ownsRow_nil _ _ _ _, fun i c hi => by simp at hi⟩ (by simp) plain_a (by decide) (by decide)).mono ?_
  rintro e w' ⟨rfl, hkr, vT, hr, ht⟩
  exact ⟨rfl, hkr, vT, vX, vR, vO, hr, ⟨fun a => by omega, fun _ _ => ht, fun a => by omega⟩, ⟨fun a => by omega, fun _ _ => hkr.r _ _ _ _ _ _ (by omega) (by decide) hx, fun a => by omega⟩, ⟨fun _ => h4.1 (by omega), fun a => by omega⟩, ⟨fun a => by omega, fun _ _ => hkr.r _ _ _ _ _ _ (by omega) (by decide) ho, fun a => by omega⟩⟩
/-- 4: the region's end. -/
theorem step3 (gx : Nat) (vA : Value) (w : World) (h : St 3 gx vA w) : Calls Tryz.prog 40 #[.pointer (some ⟨gx, 0, none⟩), .string (bstr L4)] w (LnP gx 71 (St 4 gx vA) w) := by
  refine lineT_any gx _ (by decide) L4 [115] true false none (St 4 gx vA) w h.lt tagL4 (by decide) (by decide) ?_ (fun n0 k u cs wx hn hb hq => hq.setne hn hb k u)
  intro v wx hb hk
  obtain ⟨vT, vX, vR, vO, h1, h2, h3, h4, h5⟩ := h.below hb
  obtain rfl := h4.1 (by omega)
  obtain rfl : v = .slice none 0 0 := hk
  have ht := h2.2.1 (by omega) (by omega)
  have hx := h3.2.1 (by omega) (by omega)
  have ho := h5.2.1 (by omega) (by omega)
  obtain ⟨ts, ht1, ht2⟩ := id ht
  obtain ⟨ta, tc, rfl, _, _⟩ := ownG_form ht1
  refine (endR_any gx vA vX vO ta tc wx h1 ho).mono ?_
  rintro e w' ⟨rfl, hkg, vR, a, c, hr, hrg⟩
  have hkr := KR.kg 71 hkg (Nat.le_of_lt (Blk.lt h1))
  exact ⟨rfl, hkr, _, vX, vR, _, hr, ⟨fun a => by omega, fun _ _ => ht.kr hkr (by omega) (by decide) (by decide), fun a => by omega⟩, ⟨fun a => by omega, fun _ _ => hkr.r _ _ _ _ _ _ (by omega) (by decide) hx, fun a => by omega⟩, ⟨fun a => by omega, fun _ => hrg⟩, ⟨fun a => by omega, fun a => by omega, fun _ => ⟨a, c, rfl⟩⟩⟩
/-- 5: the second token. -/
theorem step4 (gx : Nat) (aA : Option Addr) (cA : Nat) (AT : ByteArray) (w : World) (h : St 4 gx (.slice aA 1 cA) w) (hm : MaxL w) (h0 : 0 < gx) (hA : Rd w aA [.string AT, .bool false]) : Calls Tryz.prog 40 #[.pointer (some ⟨gx, 0, none⟩), .string (bstr [98])] w (LnP gx 28 (St 5 gx (.slice aA 1 cA)) w) := by
  obtain ⟨vT, vX, vR, vO, h1, h2, h3, h4, h5⟩ := h
  have ht := h2.2.1 (by omega) (by omega)
  have hx := h3.2.1 (by omega) (by omega)
  have hrg := h4.2 (by omega)
  obtain ⟨oa, oc, rfl⟩ := h5.2.2 (by omega)
  refine (lineK_any gx vT vX vR _ aA cA AT [97] 98 w hm h0 h1 hA ht (by simp) plain_b (by decide) (by decide)).mono ?_
  rintro e w' ⟨rfl, hkr, vT, hr, ht⟩
  exact ⟨rfl, hkr, vT, vX, vR, _, hr, ⟨fun a => by omega, fun a b => by omega, fun _ => ht⟩, ⟨fun a => by omega, fun _ _ => hkr.r _ _ _ _ _ _ (by omega) (by decide) hx, fun a => by omega⟩, ⟨fun a => by omega, fun _ => hkr.r _ _ _ _ _ _ (by omega) (by decide) hrg⟩, ⟨fun a => by omega, fun a => by omega, fun _ => ⟨_, _, rfl⟩⟩⟩
/-- 6: the text's end. -/
theorem step5 (gx : Nat) (vA : Value) (w : World) (h : St 5 gx vA w) : Calls Tryz.prog 40 #[.pointer (some ⟨gx, 0, none⟩), .string (bstr L6)] w (LnP gx 88 (St 6 gx vA) w) := by
  refine lineT_any gx _ (by decide) L6 [116, 101, 120, 116] true true none (St 6 gx vA) w h.lt tagL6 (by decide) (by decide) ?_ (fun n0 k u cs wx hn hb hq => hq.setne hn hb k u)
  intro v wx hb hk
  obtain ⟨vT, vX, vR, vO, h1, h2, h3, h4, h5⟩ := h.below hb
  obtain rfl : v = .slice none 0 0 := hk
  have ht := h2.2.2 (by omega)
  have hx := h3.2.1 (by omega) (by omega)
  have hrg := h4.2 (by omega)
  obtain ⟨oa, oc, rfl⟩ := h5.2.2 (by omega)
  obtain ⟨ts, ht1, ht2⟩ := id ht
  obtain ⟨ta, tc, rfl, _, _⟩ := ownG_form ht1
  refine (endT_any gx vA vX vR ta oa tc oc wx h1 hx).mono ?_
  rintro e w' ⟨rfl, hkr, hr, hx2⟩
  exact ⟨rfl, hkr, _, vX, vR, _, hr, ⟨fun a => by omega, fun a b => by omega, fun _ => ht.kr hkr (by omega) (by decide) (by decide)⟩, ⟨fun a => by omega, fun a b => by omega, fun _ => hx2⟩, ⟨fun a => by omega, fun _ => hkr.r _ _ _ _ _ _ (by omega) (by decide) hrg⟩, ⟨fun a => by omega, fun a => by omega, fun _ => ⟨_, _, rfl⟩⟩⟩
end Go.Proofs.YtbpkclopcoaikaaGreatDoor
