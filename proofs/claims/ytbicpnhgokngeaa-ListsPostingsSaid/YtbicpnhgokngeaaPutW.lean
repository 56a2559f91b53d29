/- The walks of the Writer of bits. -/
import Derived.Test.YtbicpnhgokngeaaBits
import Derived.Test.YtbicpnhgokngeaaUvW
namespace Go.Proofs.Ytbicpnhgokngeaa
open Go.RowKit
set_option linter.unusedVariables false
set_option linter.unusedSimpArgs false

theorem and7 (n : Nat) (h : n < 1000000000) : bits .and .i64 (n : Int) 7 = ((n % 8 : Nat) : Int) := by
  rw [show (7 : Int) = ((7 : Nat) : Int) from rfl, i64_band n 7 (by omega) (by omega)]
  have := Nat.and_two_pow_sub_one_eq_mod n 3
  rw [show 2 ^ 3 - 1 = 7 by decide] at this
  rw [this]
theorem u64_odd (x : Nat) (h : x < 2 ^ 64) : bits .and .u64 (x : Int) 1 = ((x % 2 : Nat) : Int) := by
  rw [u64_and (x : Int) 1 (by omega) (by omega) (by omega) (by omega), Int.toNat_natCast, show (1 : Int).toNat = 1 from rfl, Nat.and_one_is_mod]
theorem bitv_shr (k : Nat) (h : k < 8) : (128 : Int) / 2 ^ k = ((bitv k).toNat : Int) := by
  match k, h with
  | 0, _ => rfl
  | 1, _ => rfl
  | 2, _ => rfl
  | 3, _ => rfl
  | 4, _ => rfl
  | 5, _ => rfl
  | 6, _ => rfl
  | 7, _ => rfl

/-- The last part of put: the bit set where it is 1, the number raised; p: the bytes, long enough. -/
def PutMid (base g : Nat) (n : Nat) (p : List UInt8) (a : Option Addr) (c : Nat) (w : World) : Prop :=
  w.heap[g]? = some (.cells #[.slice a p.length c, .int .i64 (n : Int)] 58 (0, 0)) ∧ base ≤ g ∧ w.ownsRow base 5 1 (.slice a p.length c) p.length (p.map u8v)
theorem PutMid.done {base g n : Nat} {p : List UInt8} {a : Option Addr} {c : Nat} {w : World} (h : PutMid base g n p a c w) :
    ∃ v, (w.setCell ⟨g, 1, none⟩ (.int .i64 ((n : Int) + 1))).heap[g]? = some (.cells #[v, .int .i64 (((n + 1 : Nat)) : Int)] 58 (0, 0)) ∧ base ≤ g ∧ (w.setCell ⟨g, 1, none⟩ (.int .i64 ((n : Int) + 1))).ownsRow base 5 1 v p.length (p.map u8v) ∧ v = .slice a p.length c := by
  obtain ⟨h1, h2, h3⟩ := h
  refine ⟨_, ?_, h2, ?_, rfl⟩
  · rw [heap_setCell_same w g 1 _ _ _ h1]; simp
  · refine h3.kept (row := some g) ⟨rfl, rfl, rfl, by simp [World.setCell], fun k _ hk => heap_setCell_other w _ k _ (fun e => hk (by rw [e]))⟩ (.inr (own_ne h3 h1))

theorem PutMid.set_ {base g n q : Nat} {p : List UInt8} {b c : Nat} {w : World} (h : PutMid base g n p (some ⟨b, 0, none⟩) c w) (hq : q < p.length) (x : UInt8) :
    PutMid base g n (p.set q x) (some ⟨b, 0, none⟩) c (w.setCell ⟨b, q, none⟩ (u8v x)) := by
  obtain ⟨h1, h2, h3⟩ := h
  have hne : b ≠ g := fun e => own_ne h3 h1 (by simp [Value.ownBlock, e])
  refine ⟨?_, h2, ?_⟩
  · rw [heap_setCell_other w ⟨b, q, none⟩ g _ (Ne.symm hne), h1, List.length_set]
  · rw [List.length_set, List.map_set]
    exact own_set h3 hq _
theorem PutMid.fin {base g n : Nat} {p : List UInt8} {a : Option Addr} {c : Nat} {w : World} {l : List Bool} {b : Bool} (h : PutMid base g n p a c w) (hn : n = l.length) (hp : p = packL (l ++ [b])) :
    WrS (w.setCell ⟨g, 1, none⟩ (.int .i64 ((n : Int) + 1))) base g (Value.slice a p.length c).ownBlock (l ++ [b]) := by
  obtain ⟨v, h1, h2, h3, rfl⟩ := h.done
  subst hp
  refine ⟨_, ?_, h2, h3, rfl⟩
  rw [h1, hn]; simp
theorem PutMid.below {base g n : Nat} {p : List UInt8} {a : Option Addr} {c : Nat} {w w' : World} (h : PutMid base g n p a c w) (hb : Below w.heap.size w w') : PutMid base g n p a c w' :=
  ⟨(hb.block g (Array.getElem?_eq_some_iff.1 h.1).1).trans h.1, h.2.1, own_below h.2.2 hb⟩
theorem Ch.bel {g : Nat} {r : Option Nat} {w w1 w2 : World} (h : Ch g r w w1) (hb : Below w1.heap.size w1 w2) : Ch g r w w2 :=
  ⟨hb.os.trans h.os, hb.tape.trans h.tape, hb.output.trans h.output, Nat.le_trans h.size hb.size, fun k hk hg hr => (hb.block k (Nat.lt_of_lt_of_le hk h.size)).trans (h.block k hk hg hr)⟩
theorem Ch.set_ {g : Nat} {r : Option Nat} {w w1 : World} (h : Ch g r w w1) {p : Addr} (hp : p.block = g ∨ some p.block = r ∨ w.heap.size ≤ p.block) (v : Value) : Ch g r w (w1.setCell p v) :=
  ⟨h.os, h.tape, h.output, by simpa [World.setCell] using h.size, fun k hk hg hr => (heap_setCell_other w1 p k v (by
    rintro rfl
    rcases hp with h | h | h
    · exact hg h
    · exact hr h
    · omega)).trans (h.block k hk hg hr)⟩


set_option maxHeartbeats 1000000 in
set_option maxRecDepth 100000 in
theorem put_a1 (base g : Nat) (r : Option Nat) (l : List Bool) (x : Int) (xn : Nat) (w : World) (hx : x = xn) (hxb : xn < 2 ^ 64) (hw : WrS w base g r l) (hl : l.length < 100000000) (hbs : base ≤ w.heap.size)
    (h8 : l.length % 8 = 0) (hbit : xn % 2 = 1) :
    Calls Try.prog 32 #[.pointer (some ⟨g, 0, none⟩), .int .u64 x] w fun e w' => e = .returned (.tuple #[]) ∧ WStep base g r w (l ++ [true]) w' := by
  subst hx
  obtain ⟨v, hg, hbg, ho, hr⟩ := hw
  obtain ⟨i0, hi0, hz0, hz1, hz2⟩ := info_parts info_u8
  obtain ⟨n, hn⟩ : ∃ n, n = l.length := ⟨_, rfl⟩
  rw [← hn] at hg hl h8
  have HO := hide ho
  have HG := hide hg
  have HN := hide hn
  have HR := hide hr
  have hglt : g < w.heap.size := (Array.getElem?_eq_some_iff.1 hg).1
  have c0 : w.cell? ⟨g, 0, none⟩ = some v := cell_of_row w g 0 _ _ _ hg
  have c1 : w.cell? ⟨g, 1, none⟩ = some (.int .i64 (n : Int)) := cell_of_row w g 1 _ _ _ hg
  have e7 := and7 n (by omega)
  have t8 : (bits .and .i64 (n : Int) 7 == 0) = true := by rw [e7]; rw [h8]; rfl
  have tb : (bits .and .u64 (xn : Int) 1 == 1) = true := by rw [u64_odd xn hxb, hbit]; rfl
  obtain ⟨m, hm⟩ : ∃ m, m = n % 8 := ⟨_, rfl⟩
  rw [← hm] at e7
  have HM := hide hm
  have hm8 : m < 8 := by omega
  obtain ⟨q, hq⟩ : ∃ q, q = n / 8 := ⟨_, rfl⟩
  have HQ8 := hide hq
  have H8 := hide h8
  clear hg hn ho hr hm hq h8 hbit hxb
  have E7 := hide e7
  clear e7
  obtain ⟨a1, c1', hvform⟩ : ∃ a c, v = .slice a (packL l).length c := by
    obtain ⟨_, a, c, h, _⟩ := own_form HO.out
    exact ⟨a, c, h⟩
  subst hvform
  go_enter Try.func32, Try.ntmps32
  have hpl : (packL l).length ≤ 100000000 := by rw [packL_length, ← HN.out]; unfold nby; omega
  generalize hk : (packL l).length = k at *
  have HK := hide hk
  clear hk
  go_wp2_with (at_builtin; refine wpList_append_rd _ rfl (.tmp 14) (.tmp 15) 36 rfl base 5 i0 _ 1 1 Try.underlying36 hi0 hz0 hz1 hz2 rfl (by omega) (.slice a1 k c1') k ((packL l).map u8v) rfl (HO.out.alloc _) _ 1 1 [.int .u8 0] rfl rfl (rd_lit _ _ _ _) (by intro u hu; simp at hu; subst hu; rfl) (by simp only [maxLen]; omega) (by omega) (by simp; omega) ?_; intro v2 w1 hown1 hg1 hat1; obtain ⟨hx1, a2, c2, rfl, hx2⟩ := own_form hown1; clear hx1 hx2; have hgne := own_ne HO.out HG.out; have HG1 := hide ((hg1.block g (by simp; omega) (fun e => hgne e.symm)).trans ((Below.heap_alloc w _ g hglt).trans HG.out)); have k0 := cell_of_row w1 g 0 _ _ _ HG1.out; have kf := frozen_of_row w1 g 0 _ _ HG1.out; have HW1 := hide (And.intro hown1 (And.intro hg1 hat1)); clear hown1 hg1 hat1 hgne)
  have hch : Ch g r w (w1.setCell ⟨g, 0, none⟩ (.slice a2 (k + 1) c2)) := by
    obtain ⟨_, hg1, _⟩ := HW1.out
    refine ⟨hg1.os, hg1.tape, hg1.output, by have := hg1.size; simp [World.setCell] at this ⊢; omega, fun j hj hjg hjr => ?_⟩
    rw [heap_setCell_other w1 ⟨g, 0, none⟩ j _ hjg, hg1.block j (by simp; omega) (by rw [HR.out]; exact hjr)]
    exact Below.heap_alloc w _ j hj
  have hrow : (Value.slice a2 (k + 1) c2).ownBlock = r ∨ ∃ j, (Value.slice a2 (k + 1) c2).ownBlock = some j ∧ w.heap.size ≤ j := by
    obtain ⟨_, _, h⟩ := HW1.out
    rcases h with h | h
    · exact .inl (h.trans HR.out)
    · exact .inr ⟨_, h, by simp⟩
  have hpre : (preL l).length = k + 1 ∧ (preL l).map u8v = (packL l).map u8v ++ [.int .u8 0] := by
    have h8 := H8.out
    rw [HN.out] at h8
    unfold preL
    rw [if_pos h8]
    exact ⟨by simp [HK.out], by simp [u8v]⟩
  have hmid : PutMid base g n (preL l) a2 c2 (w1.setCell ⟨g, 0, none⟩ (.slice a2 (k + 1) c2)) := by
    obtain ⟨ho1, _, _⟩ := HW1.out
    rw [← hpre.2, ← hpre.1] at ho1
    refine ⟨?_, hbg, ?_⟩
    · rw [heap_setCell_same w1 g 0 _ _ _ HG1.out, ← hpre.1]; rfl
    · rw [← hpre.1]
      exact ho1.kept (row := some g) ⟨rfl, rfl, rfl, by simp [World.setCell], fun j _ hj => heap_setCell_other w1 _ j _ (fun e => hj (by rw [e]))⟩ (.inr (own_ne ho1 HG1.out))
  rw [← hpre.1] at hrow hch hmid ⊢
  generalize w1.setCell ⟨g, 0, none⟩ (.slice a2 (preL l).length c2) = W2 at hch hmid ⊢

  have HMID := hide hmid
  have HCH := hide hch
  have HROW := hide hrow
  have hq : q < (preL l).length := by rw [preL_length, ← HN.out, HQ8.out]; unfold nby; omega
  have HPG := hide (preL_get l q (by rw [← preL_length]; exact hq))
  have HPP := hide (show packL (l ++ [true]) = (preL l).set (l.length / 8) (byteAt l (l.length / 8) ||| bitv (l.length % 8)) from pack_put l true)
  clear hmid hch hrow
  generalize hp : preL l = p at *
  have HP := hide hp
  clear hp hpre

  obtain ⟨b, rfl⟩ : ∃ b, a2 = some ⟨b, 0, none⟩ := by
    obtain ⟨_, _, h3⟩ := HMID.out
    rcases h3.2 with ⟨h, h0⟩ | ⟨b, _, _, h, _⟩
    · omega
    · injection h with h; exact ⟨b, h⟩
  have m0 := cell_of_row W2 g 0 _ _ _ HMID.out.1
  have m1 := cell_of_row W2 g 1 _ _ _ HMID.out.1
  obtain ⟨⟨vq, hvq, mq⟩, _⟩ := own_at HMID.out.2.2 hq
  have hvq2 : vq = .int .u8 ((byteAt l q).toNat : Int) := by
    rw [List.getElem?_map, HPG.out] at hvq
    simpa [u8v] using hvq.symm
  rw [hvq2] at mq
  clear hvq hvq2
  have f0 : ∀ wx, CB W2.drew wx → wx.cell? ⟨g, 0, none⟩ = some (.slice (some ⟨b, 0, none⟩) p.length c2) := fun wx h => h.cell m0
  have f1 : ∀ wx, CB W2.drew wx → wx.cell? ⟨g, 1, none⟩ = some (.int .i64 (n : Int)) := fun wx h => h.cell m1
  have fq : ∀ wx, CB W2.drew wx → wx.cell? ⟨b, q, none⟩ = some (.int .u8 ((byteAt l q).toNat : Int)) := fun wx h => h.cell mq
  have eq8 : (n : Int) / 8 = (q : Int) := by have := HQ8.out; omega
  have hqi : (q : Int) < p.length := by omega
  have em := E7.out
  have eb := bitv_shr m hm8
  have eo := u8_bor (byteAt l q) (bitv m)
  generalize hold : byteAt l q = old at *
  generalize hbv : bitv m = bv at *
  generalize hnew : old ||| bv = new at eo
  have HNEW := hide hnew
  have HOLD := hide (And.intro hold hbv)
  clear hnew m0 m1 mq hold hbv
  refine wp_region_K 19 (by kernel_rfl) (by kernel_rfl) (fun Q HQ => ?_)
  simp only [List.take_succ_cons, List.take_zero, List.map_cons, List.map_nil]
  repeat
    first | apply wpS_c rfl | apply wpS_gc rfl (guard_mk rfl rfl)
    focus
      intro ev wx hC hx
      (try simp [Op.operands, Call.operands, opndS, Slot.holds] at hx)
      go_simp
      try (first | exact rfl | exact ⟨Below.refl _ _, rfl⟩)
      done
    dsimp only [setS, List.set]
  refine wpS_nil (HQ _ fun w3 hC3 => ?_)
  simp only [closeS, List.drop_succ_cons, List.drop_zero, List.drop_nil]
  clear HQ f0 f1 fq eq8 em eb eo E7
  have hmid3 := PutMid.below HMID.out hC3.below
  have hch3 := HCH.out.bel hC3.below
  obtain ⟨⟨vq, hvq, mq⟩, mf⟩ := own_at hmid3.2.2 hq
  have hmid4 := hmid3.set_ hq new
  have hch4 : Ch g r w (w3.setCell ⟨b, q, none⟩ (.int .u8 (new.toNat : Int))) := hch3.set_ (by
    rcases HROW.out with h | ⟨j, h, hj⟩
    · exact .inr (.inl h)
    · simp [Value.ownBlock] at h; subst h; exact .inr (.inr hj)) _
  have n0 := cell_of_row _ g 1 _ _ _ hmid4.1
  have nf := frozen_of_row _ g 1 _ _ hmid4.1
  have HM4 := hide hmid4
  have HC4 := hide hch4
  clear hmid3 hch3 hvq hmid4 hch4 HMID HCH
  have n0' : (w3.setCell ⟨b, q, none⟩ (.int .u8 (new.toNat : Int))).cell? ⟨g, 1, none⟩ = some (.int .i64 (n : Int)) := n0
  have nf' : (w3.setCell ⟨b, q, none⟩ (.int .u8 (new.toNat : Int))).frozen? ⟨g, 1, none⟩ = false := nf
  clear n0 nf
  go_wp2
  go_end0
  refine ⟨rfl, _, HM4.out.fin HN.out ?_, HC4.out.set_ (.inl rfl) _, HROW.out⟩
  rw [HPP.out, ← HNEW.out, ← HN.out, ← HQ8.out, ← HM.out, HOLD.out.1, HOLD.out.2]


set_option maxHeartbeats 1000000 in
set_option maxRecDepth 100000 in
theorem put_a0 (base g : Nat) (r : Option Nat) (l : List Bool) (x : Int) (xn : Nat) (w : World) (hx : x = xn) (hxb : xn < 2 ^ 64) (hw : WrS w base g r l) (hl : l.length < 100000000) (hbs : base ≤ w.heap.size)
    (h8 : l.length % 8 = 0) (hbit : xn % 2 = 0) :
    Calls Try.prog 32 #[.pointer (some ⟨g, 0, none⟩), .int .u64 x] w fun e w' => e = .returned (.tuple #[]) ∧ WStep base g r w (l ++ [false]) w' := by
  subst hx
  obtain ⟨v, hg, hbg, ho, hr⟩ := hw
  obtain ⟨i0, hi0, hz0, hz1, hz2⟩ := info_parts info_u8
  obtain ⟨n, hn⟩ : ∃ n, n = l.length := ⟨_, rfl⟩
  rw [← hn] at hg hl h8
  have HO := hide ho
  have HG := hide hg
  have HN := hide hn
  have HR := hide hr
  have hglt : g < w.heap.size := (Array.getElem?_eq_some_iff.1 hg).1
  have c0 : w.cell? ⟨g, 0, none⟩ = some v := cell_of_row w g 0 _ _ _ hg
  have c1 : w.cell? ⟨g, 1, none⟩ = some (.int .i64 (n : Int)) := cell_of_row w g 1 _ _ _ hg
  have e7 := and7 n (by omega)
  have t8 : (bits .and .i64 (n : Int) 7 == 0) = true := by rw [e7]; rw [h8]; rfl
  have tb : (bits .and .u64 (xn : Int) 1 == 1) = false := by rw [u64_odd xn hxb, hbit]; rfl
  obtain ⟨m, hm⟩ : ∃ m, m = n % 8 := ⟨_, rfl⟩
  rw [← hm] at e7
  have HM := hide hm
  have hm8 : m < 8 := by omega
  obtain ⟨q, hq⟩ : ∃ q, q = n / 8 := ⟨_, rfl⟩
  have HQ8 := hide hq
  have H8 := hide h8
  clear hg hn ho hr hm hq h8 hbit hxb
  have E7 := hide e7
  clear e7
  obtain ⟨a1, c1', hvform⟩ : ∃ a c, v = .slice a (packL l).length c := by
    obtain ⟨_, a, c, h, _⟩ := own_form HO.out
    exact ⟨a, c, h⟩
  subst hvform
  go_enter Try.func32, Try.ntmps32
  have hpl : (packL l).length ≤ 100000000 := by rw [packL_length, ← HN.out]; unfold nby; omega
  generalize hk : (packL l).length = k at *
  have HK := hide hk
  clear hk
  go_wp2_with (at_builtin; refine wpList_append_rd _ rfl (.tmp 14) (.tmp 15) 36 rfl base 5 i0 _ 1 1 Try.underlying36 hi0 hz0 hz1 hz2 rfl (by omega) (.slice a1 k c1') k ((packL l).map u8v) rfl (HO.out.alloc _) _ 1 1 [.int .u8 0] rfl rfl (rd_lit _ _ _ _) (by intro u hu; simp at hu; subst hu; rfl) (by simp only [maxLen]; omega) (by omega) (by simp; omega) ?_; intro v2 w1 hown1 hg1 hat1; obtain ⟨hx1, a2, c2, rfl, hx2⟩ := own_form hown1; clear hx1 hx2; have hgne := own_ne HO.out HG.out; have HG1 := hide ((hg1.block g (by simp; omega) (fun e => hgne e.symm)).trans ((Below.heap_alloc w _ g hglt).trans HG.out)); have k0 := cell_of_row w1 g 0 _ _ _ HG1.out; have kf := frozen_of_row w1 g 0 _ _ HG1.out; have k1 : w1.cell? ⟨g, 1, none⟩ = some (.int .i64 (n : Int)) := cell_of_row w1 g 1 _ _ _ HG1.out; have kf1 := frozen_of_row w1 g 1 _ _ HG1.out; have HW1 := hide (And.intro hown1 (And.intro hg1 hat1)); clear hown1 hg1 hat1 hgne)
  have hch : Ch g r w (w1.setCell ⟨g, 0, none⟩ (.slice a2 (k + 1) c2)) := by
    obtain ⟨_, hg1, _⟩ := HW1.out
    refine ⟨hg1.os, hg1.tape, hg1.output, by have := hg1.size; simp [World.setCell] at this ⊢; omega, fun j hj hjg hjr => ?_⟩
    rw [heap_setCell_other w1 ⟨g, 0, none⟩ j _ hjg, hg1.block j (by simp; omega) (by rw [HR.out]; exact hjr)]
    exact Below.heap_alloc w _ j hj
  have hrow : (Value.slice a2 (k + 1) c2).ownBlock = r ∨ ∃ j, (Value.slice a2 (k + 1) c2).ownBlock = some j ∧ w.heap.size ≤ j := by
    obtain ⟨_, _, h⟩ := HW1.out
    rcases h with h | h
    · exact .inl (h.trans HR.out)
    · exact .inr ⟨_, h, by simp⟩
  have hpre : (preL l).length = k + 1 ∧ (preL l).map u8v = (packL l).map u8v ++ [.int .u8 0] := by
    have h8 := H8.out
    rw [HN.out] at h8
    unfold preL
    rw [if_pos h8]
    exact ⟨by simp [HK.out], by simp [u8v]⟩
  have hmid : PutMid base g n (preL l) a2 c2 (w1.setCell ⟨g, 0, none⟩ (.slice a2 (k + 1) c2)) := by
    obtain ⟨ho1, _, _⟩ := HW1.out
    rw [← hpre.2, ← hpre.1] at ho1
    refine ⟨?_, hbg, ?_⟩
    · rw [heap_setCell_same w1 g 0 _ _ _ HG1.out, ← hpre.1]; rfl
    · rw [← hpre.1]
      exact ho1.kept (row := some g) ⟨rfl, rfl, rfl, by simp [World.setCell], fun j _ hj => heap_setCell_other w1 _ j _ (fun e => hj (by rw [e]))⟩ (.inr (own_ne ho1 HG1.out))

  go_end0
  refine ⟨rfl, _, hmid.fin HN.out (by rw [pack_put]; rfl), hch.set_ (.inl rfl) _, by rw [hpre.1]; exact hrow⟩


set_option maxHeartbeats 1000000 in
set_option maxRecDepth 100000 in
theorem put_b1 (base g : Nat) (r : Option Nat) (l : List Bool) (x : Int) (xn : Nat) (w : World) (hx : x = xn) (hxb : xn < 2 ^ 64) (hw : WrS w base g r l) (hl : l.length < 100000000) (hbs : base ≤ w.heap.size)
    (h8 : l.length % 8 ≠ 0) (hbit : xn % 2 = 1) :
    Calls Try.prog 32 #[.pointer (some ⟨g, 0, none⟩), .int .u64 x] w fun e w' => e = .returned (.tuple #[]) ∧ WStep base g r w (l ++ [true]) w' := by
  subst hx
  obtain ⟨v, hg, hbg, ho, hr⟩ := hw
  obtain ⟨i0, hi0, hz0, hz1, hz2⟩ := info_parts info_u8
  obtain ⟨n, hn⟩ : ∃ n, n = l.length := ⟨_, rfl⟩
  rw [← hn] at hg hl h8
  have HO := hide ho
  have HG := hide hg
  have HN := hide hn
  have HR := hide hr
  have hglt : g < w.heap.size := (Array.getElem?_eq_some_iff.1 hg).1
  have c0 : w.cell? ⟨g, 0, none⟩ = some v := cell_of_row w g 0 _ _ _ hg
  have c1 : w.cell? ⟨g, 1, none⟩ = some (.int .i64 (n : Int)) := cell_of_row w g 1 _ _ _ hg
  have e7 := and7 n (by omega)
  have t8 : (bits .and .i64 (n : Int) 7 == 0) = false := by rw [e7]; rw [beq_eq_false_iff_ne]; omega
  have tb : (bits .and .u64 (xn : Int) 1 == 1) = true := by rw [u64_odd xn hxb, hbit]; rfl
  obtain ⟨m, hm⟩ : ∃ m, m = n % 8 := ⟨_, rfl⟩
  rw [← hm] at e7
  have HM := hide hm
  have hm8 : m < 8 := by omega
  obtain ⟨q, hq⟩ : ∃ q, q = n / 8 := ⟨_, rfl⟩
  have HQ8 := hide hq
  have H8 := hide h8
  clear hg hn ho hr hm hq h8 hbit hxb
  have E7 := hide e7
  clear e7
  obtain ⟨a1, c1', hvform⟩ : ∃ a c, v = .slice a (packL l).length c := by
    obtain ⟨_, a, c, h, _⟩ := own_form HO.out
    exact ⟨a, c, h⟩
  subst hvform
  go_enter Try.func32, Try.ntmps32
  have hch : Ch g r w w := Ch.refl _ _ _
  have hrow : (Value.slice a1 (packL l).length c1').ownBlock = r ∨ ∃ j, (Value.slice a1 (packL l).length c1').ownBlock = some j ∧ w.heap.size ≤ j := .inl HR.out
  have hpre : preL l = packL l := by
    have h8 := H8.out
    rw [HN.out] at h8
    unfold preL
    rw [if_neg h8]
  have hmid : PutMid base g n (preL l) a1 c1' w := ⟨by rw [hpre]; exact HG.out, hbg, by rw [hpre]; exact HO.out⟩
  go_wp2_with fail
  rw [← hpre] at hrow
  clear c0 c1
  obtain ⟨a2, c2, ha2, hc2⟩ : ∃ a2 c2, a2 = a1 ∧ c2 = c1' := ⟨_, _, rfl, rfl⟩
  rw [← ha2, ← hc2] at hrow hmid
  obtain ⟨W2, hW2⟩ : ∃ W, W = w := ⟨_, rfl⟩
  have hch2 : Ch g r w W2 := by rw [hW2]; exact hch
  rw [← hW2] at hmid ⊢
  clear hch ha2 hc2
  have hch := hch2
  clear hch2
  have HW2 := hide hW2
  clear hW2

  have HMID := hide hmid
  have HCH := hide hch
  have HROW := hide hrow
  have hq : q < (preL l).length := by rw [preL_length, ← HN.out, HQ8.out]; unfold nby; omega
  have HPG := hide (preL_get l q (by rw [← preL_length]; exact hq))
  have HPP := hide (show packL (l ++ [true]) = (preL l).set (l.length / 8) (byteAt l (l.length / 8) ||| bitv (l.length % 8)) from pack_put l true)
  clear hmid hch hrow
  generalize hp : preL l = p at *
  have HP := hide hp
  clear hp hpre

  obtain ⟨b, rfl⟩ : ∃ b, a2 = some ⟨b, 0, none⟩ := by
    obtain ⟨_, _, h3⟩ := HMID.out
    rcases h3.2 with ⟨h, h0⟩ | ⟨b, _, _, h, _⟩
    · omega
    · injection h with h; exact ⟨b, h⟩
  have m0 := cell_of_row W2 g 0 _ _ _ HMID.out.1
  have m1 := cell_of_row W2 g 1 _ _ _ HMID.out.1
  obtain ⟨⟨vq, hvq, mq⟩, _⟩ := own_at HMID.out.2.2 hq
  have hvq2 : vq = .int .u8 ((byteAt l q).toNat : Int) := by
    rw [List.getElem?_map, HPG.out] at hvq
    simpa [u8v] using hvq.symm
  rw [hvq2] at mq
  clear hvq hvq2
  have f0 : ∀ wx, CB W2.drew wx → wx.cell? ⟨g, 0, none⟩ = some (.slice (some ⟨b, 0, none⟩) p.length c2) := fun wx h => h.cell m0
  have f1 : ∀ wx, CB W2.drew wx → wx.cell? ⟨g, 1, none⟩ = some (.int .i64 (n : Int)) := fun wx h => h.cell m1
  have fq : ∀ wx, CB W2.drew wx → wx.cell? ⟨b, q, none⟩ = some (.int .u8 ((byteAt l q).toNat : Int)) := fun wx h => h.cell mq
  have eq8 : (n : Int) / 8 = (q : Int) := by have := HQ8.out; omega
  have hqi : (q : Int) < p.length := by omega
  have em := E7.out
  have eb := bitv_shr m hm8
  have eo := u8_bor (byteAt l q) (bitv m)
  generalize hold : byteAt l q = old at *
  generalize hbv : bitv m = bv at *
  generalize hnew : old ||| bv = new at eo
  have HNEW := hide hnew
  have HOLD := hide (And.intro hold hbv)
  clear hnew m0 m1 mq hold hbv
  refine wp_region_K 19 (by kernel_rfl) (by kernel_rfl) (fun Q HQ => ?_)
  simp only [List.take_succ_cons, List.take_zero, List.map_cons, List.map_nil]
  repeat
    first | apply wpS_c rfl | apply wpS_gc rfl (guard_mk rfl rfl)
    focus
      intro ev wx hC hx
      (try simp [Op.operands, Call.operands, opndS, Slot.holds] at hx)
      go_simp
      try (first | exact rfl | exact ⟨Below.refl _ _, rfl⟩)
      done
    dsimp only [setS, List.set]
  refine wpS_nil (HQ _ fun w3 hC3 => ?_)
  simp only [closeS, List.drop_succ_cons, List.drop_zero, List.drop_nil]
  clear HQ f0 f1 fq eq8 em eb eo E7
  have hmid3 := PutMid.below HMID.out hC3.below
  have hch3 := HCH.out.bel hC3.below
  obtain ⟨⟨vq, hvq, mq⟩, mf⟩ := own_at hmid3.2.2 hq
  have hmid4 := hmid3.set_ hq new
  have hch4 : Ch g r w (w3.setCell ⟨b, q, none⟩ (.int .u8 (new.toNat : Int))) := hch3.set_ (by
    rcases HROW.out with h | ⟨j, h, hj⟩
    · exact .inr (.inl h)
    · simp [Value.ownBlock] at h; subst h; exact .inr (.inr hj)) _
  have n0 := cell_of_row _ g 1 _ _ _ hmid4.1
  have nf := frozen_of_row _ g 1 _ _ hmid4.1
  have HM4 := hide hmid4
  have HC4 := hide hch4
  clear hmid3 hch3 hvq hmid4 hch4 HMID HCH
  have n0' : (w3.setCell ⟨b, q, none⟩ (.int .u8 (new.toNat : Int))).cell? ⟨g, 1, none⟩ = some (.int .i64 (n : Int)) := n0
  have nf' : (w3.setCell ⟨b, q, none⟩ (.int .u8 (new.toNat : Int))).frozen? ⟨g, 1, none⟩ = false := nf
  clear n0 nf
  go_wp2
  go_end0
  refine ⟨rfl, _, HM4.out.fin HN.out ?_, HC4.out.set_ (.inl rfl) _, HROW.out⟩
  rw [HPP.out, ← HNEW.out, ← HN.out, ← HQ8.out, ← HM.out, HOLD.out.1, HOLD.out.2]


set_option maxHeartbeats 1000000 in
set_option maxRecDepth 100000 in
theorem put_b0 (base g : Nat) (r : Option Nat) (l : List Bool) (x : Int) (xn : Nat) (w : World) (hx : x = xn) (hxb : xn < 2 ^ 64) (hw : WrS w base g r l) (hl : l.length < 100000000) (hbs : base ≤ w.heap.size)
    (h8 : l.length % 8 ≠ 0) (hbit : xn % 2 = 0) :
    Calls Try.prog 32 #[.pointer (some ⟨g, 0, none⟩), .int .u64 x] w fun e w' => e = .returned (.tuple #[]) ∧ WStep base g r w (l ++ [false]) w' := by
  subst hx
  obtain ⟨v, hg, hbg, ho, hr⟩ := hw
  obtain ⟨i0, hi0, hz0, hz1, hz2⟩ := info_parts info_u8
  obtain ⟨n, hn⟩ : ∃ n, n = l.length := ⟨_, rfl⟩
  rw [← hn] at hg hl h8
  have HO := hide ho
  have HG := hide hg
  have HN := hide hn
  have HR := hide hr
  have hglt : g < w.heap.size := (Array.getElem?_eq_some_iff.1 hg).1
  have c0 : w.cell? ⟨g, 0, none⟩ = some v := cell_of_row w g 0 _ _ _ hg
  have c1 : w.cell? ⟨g, 1, none⟩ = some (.int .i64 (n : Int)) := cell_of_row w g 1 _ _ _ hg
  have e7 := and7 n (by omega)
  have t8 : (bits .and .i64 (n : Int) 7 == 0) = false := by rw [e7]; rw [beq_eq_false_iff_ne]; omega
  have tb : (bits .and .u64 (xn : Int) 1 == 1) = false := by rw [u64_odd xn hxb, hbit]; rfl
  obtain ⟨m, hm⟩ : ∃ m, m = n % 8 := ⟨_, rfl⟩
  rw [← hm] at e7
  have HM := hide hm
  have hm8 : m < 8 := by omega
  obtain ⟨q, hq⟩ : ∃ q, q = n / 8 := ⟨_, rfl⟩
  have HQ8 := hide hq
  have H8 := hide h8
  clear hg hn ho hr hm hq h8 hbit hxb
  have E7 := hide e7
  clear e7
  obtain ⟨a1, c1', hvform⟩ : ∃ a c, v = .slice a (packL l).length c := by
    obtain ⟨_, a, c, h, _⟩ := own_form HO.out
    exact ⟨a, c, h⟩
  subst hvform
  go_enter Try.func32, Try.ntmps32
  have hch : Ch g r w w := Ch.refl _ _ _
  have hrow : (Value.slice a1 (packL l).length c1').ownBlock = r ∨ ∃ j, (Value.slice a1 (packL l).length c1').ownBlock = some j ∧ w.heap.size ≤ j := .inl HR.out
  have hpre : preL l = packL l := by
    have h8 := H8.out
    rw [HN.out] at h8
    unfold preL
    rw [if_neg h8]
  have hmid : PutMid base g n (preL l) a1 c1' w := ⟨by rw [hpre]; exact HG.out, hbg, by rw [hpre]; exact HO.out⟩
  have kf1 := frozen_of_row w g 1 _ _ HG.out
  go_wp2
  go_end0
  refine ⟨rfl, _, hmid.fin HN.out (by rw [pack_put]; rfl), hch.set_ (.inl rfl) _, by rw [hpre]; exact hrow⟩


theorem put_any (base g : Nat) (r : Option Nat) (l : List Bool) (x : Int) (xn : Nat) (w : World) (hx : x = xn) (hxb : xn < 2 ^ 64) (hw : WrS w base g r l) (hl : l.length < 100000000) (hbs : base ≤ w.heap.size) :
    Calls Try.prog 32 #[.pointer (some ⟨g, 0, none⟩), .int .u64 x] w fun e w' => e = .returned (.tuple #[]) ∧ WStep base g r w (l ++ [decide (xn % 2 = 1)]) w' := by
  by_cases hb : xn % 2 = 1
  · rw [decide_eq_true hb]
    by_cases h8 : l.length % 8 = 0
    · exact put_a1 base g r l x xn w hx hxb hw hl hbs h8 hb
    · exact put_b1 base g r l x xn w hx hxb hw hl hbs h8 hb
  · rw [decide_eq_false hb]
    by_cases h8 : l.length % 8 = 0
    · exact put_a0 base g r l x xn w hx hxb hw hl hbs h8 (by omega)
    · exact put_b0 base g r l x xn w hx hxb hw hl hbs h8 (by omega)

end Go.Proofs.Ytbicpnhgokngeaa
