/- The walk of lowest. -/
import Derived.Test.YtchcaidcohgjbaaKNuW
import Derived.Test.YtchcaidcohgjbaaNewRW
namespace Go.Proofs.Ytchcaidcohgjbaa
open Go.RowKit
set_option linter.unusedVariables false
set_option linter.unusedSimpArgs false
def rowN (f : Nat → Nat) (k n : Nat) : List Value := (List.range k).map (fun j => nv (f j)) ++ List.replicate (n - k) (nv 0)
theorem rowN_set (f : Nat → Nat) (k n : Nat) (h : k < n) : (rowN f k n).set k (nv (f k)) = rowN f (k + 1) n := by
  unfold rowN
  rw [List.set_append_right _ _ (by simp), List.length_map, List.length_range, Nat.sub_self, show n - k = (n - k - 1) + 1 by omega, List.replicate_succ, List.set_cons_zero, List.range_succ, List.map_append, List.append_assoc, show n - (k + 1) = n - k - 1 by omega]
  rfl
theorem rowN_all (f : Nat → Nat) (n : Nat) : rowN f n n = ((List.range n).map f).map nv := by
  unfold rowN; rw [Nat.sub_self]; simp
theorem RStep.grown {base g : Nat} {L : List Bool} {w w' : World} {pos : Nat} (h : RStep base g L w pos w') : w.grownBy w' (some g) := ⟨h.2.2.1, h.2.2.2.1, h.2.2.2.2.1, by rw [h.2.1]; exact Nat.le_refl _, fun k _ hk => h.2.2.2.2.2 k (fun e => hk (by rw [e]))⟩
/-- A Reader whose bytes lie in a known place. -/
def RdA (w : World) (base g : Nat) (L : List Bool) (pos : Nat) (A : Option Addr) (m c : Nat) (p : List UInt8) : Prop :=
  w.heap[g]? = some (.cells #[.slice A m c, .int .i64 (L.length : Int), .int .i64 (pos : Int)] 82 (0, 0)) ∧ base ≤ g ∧ BRd w A p ∧ m = p.length ∧ L.length ≤ 8 * m ∧ unpackL p L.length = L ∧ (∀ b, A = some b → b.block ≠ g) ∧ pos ≤ L.length ∧ L.length ≤ 100000
theorem RdA.rd {w : World} {base g : Nat} {L : List Bool} {pos : Nat} {A : Option Addr} {m c : Nat} {p : List UInt8} (h : RdA w base g L pos A m c p) : RdS w base g L pos := ⟨A, m, c, p, h⟩
theorem RdA.step {w w' : World} {base g : Nat} {L : List Bool} {pos pos' : Nat} {A : Option Addr} {m c : Nat} {p : List UInt8} (h : RdA w base g L pos A m c p) (hs : RStep base g L w pos' w') (hq : w' = w ∨ ∃ q : Int, w' = w.setCell ⟨g, 2, none⟩ (.int .i64 q)) : RdA w' base g L pos' A m c p := by
  obtain ⟨h1, h2, h3, h4, h5, h6, h7, h8, h9⟩ := h
  obtain ⟨A', m', c', p', k1, _, _, _, _, _, _, k8, _⟩ := hs.1
  have hr : BRd w' A p := Rd.grown h3 hs.grown fun b hb e => h7 b hb (by injection e)
  refine ⟨?_, h2, hr, h4, h5, h6, h7, k8, h9⟩
  rcases hq with rfl | ⟨q, rfl⟩
  · rw [h1] at k1
    rw [h1]
    simp at k1 ⊢
    exact k1.2
  · rw [heap_setCell_same w g 2 _ _ _ h1] at k1 ⊢
    simp at k1 ⊢
    exact k1.2
theorem RdA.keep {w w' : World} {base g gv : Nat} {L : List Bool} {pos : Nat} {A : Option Addr} {m c : Nat} {p : List UInt8} (h : RdA w base g L pos A m c p) (hg : w.grownBy w' (some gv)) (hne : gv ≠ g) (hA : ∀ b, A = some b → b.block ≠ gv ∨ p = []) : RdA w' base g L pos A m c p := by
  obtain ⟨h1, h2, h3, h4⟩ := h
  refine ⟨(hg.block g (Array.getElem?_eq_some_iff.1 h1).1 (fun e => hne (by injection e with e; exact e.symm))).trans h1, h2, ?_, h4⟩
  by_cases hp : p = []
  · exact .inl (by rw [hp]; rfl)
  · exact Rd.grown h3 hg (fun b hb e => (hA b hb).elim (fun h => h (by injection e)) hp)
theorem grown_set (w : World) (g i : Nat) (v : Value) : w.grownBy (w.setCell ⟨g, i, none⟩ v) (some g) := ⟨rfl, rfl, rfl, by simp [World.setCell], fun k _ hk => heap_setCell_other w ⟨g, i, none⟩ k _ (fun e => hk (by rw [e]))⟩
set_option maxHeartbeats 1000000 in
set_option maxRecDepth 100000 in
theorem lowest_any (A : Option Addr) (len c : Nat) (p : List UInt8) (x y : Int) (n wd : Nat) (w : World) (hl : len = p.length) (hc : len ≤ c) (hm : len ≤ 10000) (hr : BRd w A p) (hx : x = n) (hy : y = wd) (hw : wd ≤ 31) (hn : n ≤ 128) (hf : n * wd ≤ 8 * len) :
    Calls Try.prog 30 #[.slice A len c, .int .i64 x, .int .i64 y] w fun e w' => ∃ v, e = .returned v ∧ w'.ownsRow w.heap.size 3 1 v n ((lowsD p n wd).map nv) ∧ Below w.heap.size w w' := by
  subst hx hy
  have HL := hide hl
  have HR := hide hr
  clear hl hr
  obtain ⟨m, hmm⟩ : ∃ m, m = n * wd := ⟨_, rfl⟩
  have em : (n : Int) * (wd : Int) = (m : Int) := by rw [hmm]; simp
  have m1 : m ≤ 128 * 31 := by rw [hmm]; exact Nat.mul_le_mul hn hw
  rw [← hmm] at hf
  have HM := hide hmm
  clear hmm
  go_enter Try.func30, Try.ntmps30
  go_wp2_with fail
  refine (newreader_any A len c p m w HL.out hc hm HR.out ⟨by omega, by omega⟩).mono ?_
  rintro e w1 ⟨g, rfl, hg, hrs, hb1⟩
  rw [Int.toNat_natCast] at hrs
  have HRS := hide hrs
  have HB1 := hide hb1
  clear hrs hb1
  obtain ⟨i2, hi2, hz0, hz1, hz2⟩ := info_parts info_int
  have HLEN := hide (show (unpackL p m).length = m from unpackL_length p m)
  have s1 : w.heap.size ≤ w1.heap.size := HB1.out.size
  have hglt : g < w1.heap.size := HRS.out.lt
  go_wp2_with (at_make; go_loud (refine wpList_make_full _ rfl (.tmp 21) (.tmp 21) 22 rfl w1.heap.size 3 i2 _ 1 Try.underlying22 hi2 hz0 hz1 .i64 .i64 _ _ n rfl rfl rfl rfl (by rw [hz2]; omega) (by simp only [maxLen]; omega) (Nat.le_refl _) ?_); intro w2 hown hg1; rw [made_one _ rfl] at hown; have hb2 : Below w1.heap.size w1 w2 := bl_grown (bl_refl w1) hg1 (fun k h => by cases h); have HO := hide hown; clear hown hg1)
  obtain ⟨Ar, mr, cr, pr, hra⟩ := HRS.out
  have HAB : Hid (∀ b, Ar = some b → b.block < w1.heap.size ∨ pr = []) := hide fun b hb => by
    rcases hra.2.2.1 with h | ⟨b', o', he, hlt, _⟩
    · right; simpa using h
    · left; rw [he] at hb; injection hb with hb; subst hb; exact hlt
  have HRS2 := hide (show RdA w2 w.heap.size g (unpackL p m) 0 Ar mr cr pr from ⟨(hb2.block g hglt).trans hra.1, hra.2.1, hra.2.2.1.below hb2, hra.2.2.2⟩)
  clear hra
  have HB2 := hide (bl_trans HB1.out hb2)
  obtain ⟨gv, hgv⟩ : ∃ gv, gv = w1.heap.size := ⟨_, rfl⟩
  rw [← hgv] at HO hglt s1
  rw [← hgv]
  obtain ⟨f, hfd⟩ : ∃ f : Nat → Nat, f = fun i => takeM (unpackL p m) (i * wd) wd := ⟨_, rfl⟩
  have HFD := hide hfd
  have HGV := hide hgv
  clear hfd hb2 hgv
  go_loopw [25] (fun i wr => ∃ k : Nat, i = .int .i64 (k : Int) ∧ k ≤ n ∧ Hid (RdA wr w.heap.size g (unpackL p m) (k * wd) Ar mr cr pr) ∧ Hid (wr.ownsRow w.heap.size 3 1 (.slice (some ⟨gv, 0, none⟩) n n) n (rowN f k n)) ∧ Hid (Below w.heap.size w wr)) (fun i _ => n - (intOf i).toNat)
  case atStart => exact ⟨0, rfl, Nat.zero_le _, hide (by rw [Nat.zero_mul]; exact HRS2.out), hide (by unfold rowN nv; simpa using own_base HO.out s1), HB2⟩
  case round =>
    obtain ⟨k, rfl, hk, HRk, HOk, HBk⟩ := hrel
    by_cases hlt : k < n
    · have hkn : (k : Int) < (n : Int) := by omega
      have hle : k * wd + wd ≤ m := by
        rw [HM.out, show k * wd + wd = (k + 1) * wd by rw [Nat.add_mul]; omega]
        exact Nat.mul_le_mul_right _ hlt
      have hbm : bitsM (unpackL p m) (k * wd) (wd : Int) = (f k, (k + 1) * wd, 0) := by
        unfold bitsM
        rw [if_neg (by omega), if_neg (by rw [HLEN.out, Int.toNat_natCast]; omega), Int.toNat_natCast, HFD.out, show (k + 1) * wd = k * wd + wd by rw [Nat.add_mul]; omega]
      have hfk : f k < 2 ^ 31 := by
        rw [HFD.out]
        exact Nat.lt_of_lt_of_le (numB_lt _) (Nat.pow_le_pow_right (by decide) (by simp; omega))
      have HBM := hide hbm
      clear hbm hle
      go_wp2_with fail
      refine (rbits_any w.heap.size g (unpackL p m) (k * wd) (wd : Int) wr HRk.out.rd).mono ?_
      rintro e w3 ⟨rfl, hst, hq3⟩
      rw [HBM.out] at hst ⊢
      have HST := hide hst
      have hg3 := hst.grown
      have ho3 := World.ownsRow.kept HOk.out hg3 (.inr (by simp [Value.ownBlock]; omega))
      have HSET := hide (own_set ho3 hlt (nv (f k)))
      obtain ⟨⟨vq, _, mq⟩, mf⟩ := own_at ho3 hlt
      have HR3 := hide (HRk.out.step hst hq3)
      have HB3 := hide (HBk.out.trans (hst.below hg))
      obtain ⟨y, hy⟩ : ∃ y, y = f k := ⟨_, rfl⟩
      rw [← hy] at hfk HSET ⊢
      have HY := hide hy
      have ey : IntKind.i64.wrap (y : Int) = (y : Int) := by rw [IntKind.wrap_i64]; omega
      clear hst hg3 ho3 hy hq3
      unfold tup2
      go_wp2
      go_roundw
      case rel =>
        refine ⟨k + 1, by go_num, by omega, hide ?_, hide ?_, hide (bl_set HB3.out (by show w.heap.size ≤ gv; omega) _)⟩
        · refine HR3.out.keep (grown_set _ gv k _) (by omega) ?_
          exact fun b hb => (HAB.out b hb).imp (fun h => by have := HGV.out; omega) id
        · have := HSET.out
          rw [HY.out, rowN_set f k n hlt] at this
          rw [HY.out]
          exact this
      case measure => simp [intOf]; omega
    · obtain rfl : k = n := by omega
      go_wp2
      go_ret
      refine ⟨_, rfl, ?_, HBk.out⟩
      have h := HOk.out
      rw [rowN_all, HFD.out] at h
      unfold lowsD
      rw [← HM.out]
      exact h
end Go.Proofs.Ytchcaidcohgjbaa
