/- The walk of the method number of block's reader. -/
import Derived.Test.YtchcaidcohgjbaaKBoW
import Derived.Test.YtchcaidcohgjbaaKDM
namespace Go.Proofs.Ytchcaidcohgjbaa
open Go.RowKit
set_option linter.unusedVariables false
set_option linter.unusedSimpArgs false
theorem dec_le : ∀ (l : List UInt8) (i a : Nat), (dec i a l).2.1 ≤ i + l.length
  | [], i, a => by simp [dec]
  | c :: l, i, a => by
    unfold dec
    by_cases h1 : i = 9 ∧ 1 < c.toNat
    · rw [if_pos h1]; exact Nat.zero_le _
    rw [if_neg h1]
    simp only [List.length_cons]
    split
    · split
      · exact Nat.zero_le _
      · show i + 1 ≤ _; omega
    · have := dec_le l (i + 1) (a + c.toNat % 128 * 2 ^ (7 * i)); omega
/-- The reader in block g. -/
def RdrS (w : World) (g : Nat) (ok : Bool) (b : List UInt8) : Prop :=
  ∃ A n c, w.heap[g]? = some (.cells #[.slice A n c, .bool ok] 55 (0, 0)) ∧ n = b.length ∧ n ≤ c ∧ n ≤ 1000000 ∧ BRd w A b ∧ (b = [] ∨ ∀ x, A = some x → x.block < g) ∧ (A = none → c = 0)
/-- The reader behind a number that was read. -/
def RdrT (w : World) (g : Nat) (b : List UInt8) : Prop :=
  ∃ bb o n c, w.heap[g]? = some (.cells #[.slice (some ⟨bb, o, none⟩) n c, .bool true] 55 (0, 0)) ∧ n = b.length ∧ n ≤ c ∧ n ≤ 1000000 ∧ BRd w (some ⟨bb, o, none⟩) b ∧ (b = [] ∨ bb < g)
theorem RdrT.rdr {w : World} {g : Nat} {b : List UInt8} (h : RdrT w g b) : RdrS w g true b := by
  obtain ⟨bb, o, n, c, h1, h2, h3, h4, h5, h6⟩ := h
  exact ⟨_, n, c, h1, h2, h3, h4, h5, h6.imp id (fun h x hx => by injection hx with hx; subst hx; exact h), fun h => by cases h⟩
/-- Only block g may have turned. -/
def RTurn (g : Nat) (w w' : World) : Prop := w'.heap.size = w.heap.size ∧ w'.os = w.os ∧ w'.tape = w.tape ∧ w'.output = w.output ∧ ∀ k, k ≠ g → w'.heap[k]? = w.heap[k]?
theorem RTurn.refl (g : Nat) (w : World) : RTurn g w w := ⟨rfl, rfl, rfl, rfl, fun _ _ => rfl⟩
theorem RTurn.below {base g : Nat} {w w' : World} (h : RTurn g w w') (hg : base ≤ g) : Below base w w' := ⟨h.2.1, h.2.2.1, h.2.2.2.1, by rw [h.1]; exact Nat.le_refl _, fun k hk => h.2.2.2.2 k (by omega)⟩
theorem RTurn.rd {g : Nat} {w w' : World} (h : RTurn g w w') {A : Option Addr} {xs : List Value} (hr : Rd w A xs) (hne : ∀ x, A = some x → x.block ≠ g) : Rd w' A xs := by
  rcases hr with rfl | ⟨b, o, rfl, hb, hc⟩
  · exact .inl rfl
  · exact .inr ⟨b, o, rfl, by rw [h.1]; exact hb, fun k v hv => (World.cell?_of_block (h.2.2.2.2 b (hne _ rfl))).trans (hc k v hv)⟩
theorem RTurn.setCell (g i : Nat) (v : Value) (w : World) : RTurn g w (w.setCell ⟨g, i, none⟩ v) := ⟨by simp [World.setCell], rfl, rfl, rfl, fun k hk => by simp [World.setCell, Array.getElem?_modify, Ne.symm hk]⟩
theorem RdrS.fail {w : World} {g : Nat} {ok : Bool} {b : List UInt8} (h : RdrS w g ok b) : RdrS (w.setCell ⟨g, 1, none⟩ (.bool false)) g false b := by
  obtain ⟨A, n, c, hg, hn, hnc, hm, hr, hA, hc⟩ := h
  refine ⟨A, n, c, by simp [World.setCell, Array.getElem?_modify, hg], hn, hnc, hm, ?_, hA, hc⟩
  rcases hA with rfl | hA
  · exact .inl rfl
  · exact (RTurn.setCell g 1 _ w).rd hr (fun x hx => Nat.ne_of_lt (hA x hx))
theorem Rd.drop {w : World} {b o : Nat} {xs : List Value} (h : Rd w (some ⟨b, o, none⟩) xs) (k : Nat) : Rd w (some ⟨b, o + k, none⟩) (xs.drop k) := by
  rcases h with rfl | ⟨b', o', he, hb, hc⟩
  · exact .inl (by simp)
  · injection he with he
    injection he with q1 q2
    subst q1 q2
    refine .inr ⟨b, o + k, rfl, hb, fun j v hv => ?_⟩
    rw [List.getElem?_drop] at hv
    have := hc (k + j) v hv
    rw [show o + k + j = o + (k + j) by omega]
    exact this
theorem RdrS.step {w : World} {g bb o n c : Nat} {b : List UInt8} (hg : w.heap[g]? = some (.cells #[.slice (some ⟨bb, o, none⟩) n c, .bool true] 55 (0, 0))) (hn : n = b.length) (hnc : n ≤ c) (hm : n ≤ 1000000) (hr : BRd w (some ⟨bb, o, none⟩) b) (hA : b = [] ∨ bb < g) (m : Nat) (hmn : m ≤ n) :
    RdrT (w.setCell ⟨g, 0, none⟩ (.slice (some ⟨bb, o + m, none⟩) (n - m) (c - m))) g (b.drop m) := by
  refine ⟨bb, o + m, n - m, c - m, by simp [World.setCell, Array.getElem?_modify, hg], by rw [List.length_drop, ← hn], by omega, by omega, ?_, hA.imp (fun h => by rw [h]; simp) id⟩
  rcases hA with rfl | hA
  · exact .inl (by simp)
  refine (RTurn.setCell g 0 _ w).rd ?_ (fun x hx => by injection hx with hx; subst hx; exact Nat.ne_of_lt hA)
  have := Rd.drop hr m
  rwa [← List.map_drop] at this
theorem RdrS.below {w w' : World} {g : Nat} {ok : Bool} {b : List UInt8} (h : RdrS w g ok b) (hb : Below w.heap.size w w') : RdrS w' g ok b := by
  obtain ⟨A, n, c, h1, h2, h3, h4, h5, h6⟩ := h
  exact ⟨A, n, c, (hb.block g (Array.getElem?_eq_some_iff.1 h1).1).trans h1, h2, h3, h4, Rd.below h5 hb, h6⟩
theorem RdrS.keep {w w' : World} {g gv : Nat} {ok : Bool} {b : List UInt8} (h : RdrS w g ok b) (hg : w.grownBy w' (some gv)) (hne : g < gv) : RdrS w' g ok b := by
  obtain ⟨A, n, c, h1, h2, h3, h4, h5, h6, h7⟩ := h
  refine ⟨A, n, c, (hg.block g (Array.getElem?_eq_some_iff.1 h1).1 (fun e => by injection e with e; omega)).trans h1, h2, h3, h4, ?_, h6, h7⟩
  rcases h6 with rfl | h6
  · exact .inl rfl
  · exact Rd.grown h5 hg fun x hx e => by have := h6 x hx; injection e with e; omega
theorem RdrS.last {w : World} {g bb o n c : Nat} {b : List UInt8} (hg : w.heap[g]? = some (.cells #[.slice (some ⟨bb, o, none⟩) n c, .bool true] 55 (0, 0))) (hn : n = b.length) (m : Nat) (hmn : n ≤ m) :
    RdrT (w.setCell ⟨g, 0, none⟩ (.slice (some ⟨bb, o, none⟩) 0 0)) g (b.drop m) := by
  have e : b.drop m = [] := List.drop_eq_nil_of_le (by omega)
  rw [e]
  exact ⟨bb, o, 0, 0, by simp [World.setCell, Array.getElem?_modify, hg], rfl, Nat.le_refl _, by omega, .inl rfl, .inl rfl⟩
/-- What number answers, and the reader behind it. -/
def numS (ok : Bool) (b : List UInt8) (lim : Nat) : Nat × Bool × List UInt8 :=
  if ok = false ∨ (dec 0 0 b).2.2 ≠ 0 ∨ lim < (dec 0 0 b).1 then (0, false, b) else ((dec 0 0 b).1, true, b.drop (dec 0 0 b).2.1)
set_option maxHeartbeats 1000000 in
set_option maxRecDepth 100000 in
theorem number_any (g : Nat) (ok : Bool) (b : List UInt8) (x : Int) (lim : Nat) (w : World) (hs : RdrS w g ok b) (hx : x = lim) (hlim : lim < 2 ^ 62) :
    Calls Try.prog 29 #[.pointer (some ⟨g, 0, none⟩), .int .i64 x] w fun e w' => e = .returned (.int .i64 (((numS ok b lim).1 : Nat) : Int)) ∧ RdrS w' g (numS ok b lim).2.1 (numS ok b lim).2.2 ∧ RTurn g w w' ∧ ((numS ok b lim).2.1 = true → RdrT w' g (numS ok b lim).2.2) := by
  subst hx
  have HS := hide hs
  obtain ⟨A, n, c, hg, hn, hnc, hm, hr, hA, hcn⟩ := hs
  have c0 : w.cell? ⟨g, 0, none⟩ = some (.slice A n c) := cell_of_row w g 0 _ _ _ hg
  have c1 : w.cell? ⟨g, 1, none⟩ = some (.bool ok) := cell_of_row w g 1 _ _ _ hg
  have f0 : w.frozen? ⟨g, 0, none⟩ = false := by simp [World.frozen?, hg]
  have f1 : w.frozen? ⟨g, 1, none⟩ = false := by simp [World.frozen?, hg]
  have HG := hide hg
  have HR := hide hr
  have HA := hide hA
  have HN := hide hn
  have HDL := hide (show (dec 0 0 b).2.1 ≤ n by have := dec_le b 0 0; omega)
  have HRES := hide (show numS ok b lim = if ok = false ∨ (dec 0 0 b).2.2 ≠ 0 ∨ lim < (dec 0 0 b).1 then (0, false, b) else ((dec 0 0 b).1, true, b.drop (dec 0 0 b).2.1) from rfl)
  clear hg hn hr hA hcn
  go_enter Try.func29, Try.ntmps29
  go_wp2_with fail
  refine (uvarint_any A n c b w HN.out (by omega) HR.out).mono ?_
  rintro e w' ⟨rfl, rfl⟩
  unfold decV
  obtain ⟨v, m, er, hd⟩ : ∃ v m er, dec 0 0 b = (v, m, er) := ⟨_, _, _, rfl⟩
  rw [hd] at HDL HRES ⊢
  simp only at HDL HRES ⊢
  have HBAD : Hid (ok = false ∨ er ≠ 0 ∨ lim < v → numS ok b lim = (0, false, b)) := hide fun h => HRES.out.trans (if_pos h)
  have HGOOD : Hid (¬ (ok = false ∨ er ≠ 0 ∨ lim < v) → numS ok b lim = (v, true, b.drop m)) := hide fun h => HRES.out.trans (if_neg h)
  have HD := hide hd
  clear hd HRES
  have e1 : IntKind.u64.wrap (lim : Int) = (lim : Int) := by rw [IntKind.wrap_u64]; omega
  by_cases h1 : ok = false
  · have HR1 := hide (HBAD.out (.inl h1))
    subst h1
    go_wp2
    go_ret
    rw [HR1.out]
    exact ⟨rfl, HS.out.fail, RTurn.setCell _ _ _ _, fun h => by cases h⟩
  have h1t : ok = true := by simpa using h1
  by_cases h2 : er = 0
  case neg =>
    have HR1 := hide (HBAD.out (.inr (.inl h2)))
    have t1 : ((er : Int) != 0) = true := by rw [bne_iff_ne]; omega
    subst h1t
    clear h1 h2
    go_wp2
    go_ret
    rw [HR1.out]
    exact ⟨rfl, HS.out.fail, RTurn.setCell _ _ _ _, fun h => by cases h⟩
  have t1 : ((er : Int) != 0) = false := by simp [h2]
  by_cases h3 : lim < v
  · have HR1 := hide (HBAD.out (.inr (.inr h3)))
    have t2 : (lim : Int) < (v : Int) := by omega
    subst h1t
    clear h1 h2
    go_wp2
    go_ret
    rw [HR1.out]
    exact ⟨rfl, HS.out.fail, RTurn.setCell _ _ _ _, fun h => by cases h⟩
  have HR1 := hide (HGOOD.out (fun h => h.elim h1 (fun h => h.elim (fun h => h h2) h3)))
  have t2 : ¬ (lim : Int) < (v : Int) := by omega
  have hb0 : 0 < n := by
    rcases Nat.eq_zero_or_pos n with h | h
    · exfalso
      have hb : b = [] := List.eq_nil_of_length_eq_zero (by rw [← HN.out]; exact h)
      have := HD.out
      rw [hb] at this
      simp [dec] at this
      omega
    · exact h
  obtain ⟨bb, o, rfl, hbb⟩ : ∃ bb o, A = some ⟨bb, o, none⟩ ∧ bb < w.heap.size := by
    rcases HR.out with h | ⟨b', o', he, hb, _⟩
    · have := HN.out; simp at h; rw [h] at this; simp at this; omega
    · exact ⟨b', o', he, hb⟩
  have hml := HDL.out
  have HA2 : Hid (bb < g) := hide (HA.out.elim (fun h => by have := HN.out; rw [h] at this; simp at this; omega) (fun h => h _ rfl))
  have HSTEP := hide (RdrS.step (HG.out.trans (by rw [h1t])) HN.out hnc hm HR.out (.inr HA2.out) m hml)
  have HLAST := hide (fun h => RdrS.last (HG.out.trans (by rw [h1t])) HN.out m h)
  subst h1t
  have ev : IntKind.i64.wrap (v : Int) = (v : Int) := by rw [IntKind.wrap_i64]; omega
  have hmi : (m : Int) ≤ (n : Int) := by omega
  have hnci : (n : Int) ≤ (c : Int) := by omega
  clear h1 h2 h3 hml HBAD HGOOD HDL
  by_cases hcm : c = m
  · have hnm : n ≤ m := by omega
    go_wp2
    go_ret
    rw [HR1.out]
    exact ⟨rfl, (HLAST.out hnm).rdr, RTurn.setCell _ _ _ _, fun _ => HLAST.out hnm⟩
  · go_wp2
    go_ret
    rw [HR1.out]
    exact ⟨rfl, HSTEP.out.rdr, RTurn.setCell _ _ _ _, fun _ => HSTEP.out⟩
end Go.Proofs.Ytchcaidcohgjbaa
