/- The walk of union. -/
import Derived.Test.YtbicpnhgokngeaaLSplW
namespace Go.Proofs.Ytbicpnhgokngeaa
open Go.RowKit
set_option linter.unusedVariables false
set_option linter.unusedSimpArgs false
def lenV : Value → Nat
  | .slice _ n _ => n
  | _ => 0
def GI (W : World) (base : Nat) (s : Value) (xs : List Int) : (Nat → Bool) → World → Prop := fun L w => W.grownBy w s.ownBlock ∧ (L 5 = false → w.ownsRow base 3 1 s xs.length (xs.map iv))
def EI (r : Option Nat) : Nat → World → World → Prop := fun j w w' => w.grownBy w' r ∧ (j ≠ 5 → Below w.heap.size w w')
def PBi (base : Nat) (x : Int) : Value → World → Prop := fun v w => ∃ gb, v = .slice (some ⟨gb, 0, none⟩) 1 1 ∧ base ≤ gb ∧ w.heap[gb]? = some (.cells #[.int .i64 x] 3 (0, 0))
def POi (base n : Nat) (xs : List Value) : Value → World → Prop := fun v w => w.ownsRow base 3 1 v n xs
theorem bg {w w' : World} (hb : Below w.heap.size w w') (r : Option Nat) : w.grownBy w' r := World.grownBy.but (show w.grownBy w' none from ⟨hb.os, hb.tape, hb.output, hb.size, fun k hk _ => hb.block k hk⟩) r
theorem GI.same {W : World} {base : Nat} {s : Value} {xs : List Int} {L : Nat → Bool} {w w' : World} {i : Nat} (h : GI W base s xs L w) (hb : Below w.heap.size w w') (hi : i ≠ 5) : GI W base s xs (upL L i) w' := by
  refine ⟨h.1.trans (bg hb _), fun hL => ?_⟩
  have h3 : L 5 = false := by
    unfold upL at hL
    rwa [if_neg (fun e => hi e.symm)] at hL
  exact own_below (h.2 h3) hb
theorem GI.cell {W : World} {base : Nat} {s : Value} {xs : List Int} {L : Nat → Bool} {w : World} (h : GI W base s xs L w) {b o : Nat} {v : Value} (hc : W.cell? ⟨b, o, none⟩ = some v) (hne : some b ≠ s.ownBlock) : w.cell? ⟨b, o, none⟩ = some v :=
  (World.cell?_of_block (h.1.block b (lt_heap hc) hne)).trans hc
theorem EI.of {r : Option Nat} {j : Nat} {w w' : World} (hb : Below w.heap.size w w') : EI r j w w' := ⟨bg hb r, fun _ => hb⟩
theorem stabPBi {m : List Nat} {r : Option Nat} {base i : Nat} {x : Int} (hr : ∀ j, r = some j → j < base) : StabF m (EI r) i (.p (PBi base x)) := fun _ _ _ u w w' hE ⟨gb, h1, h2, h3⟩ =>
  ⟨gb, h1, h2, (hE.1.block gb (Array.getElem?_eq_some_iff.1 h3).1 (fun e => by have := hr gb e.symm; omega)).trans h3⟩
theorem stabPOi {m : List Nat} {r : Option Nat} {base n i : Nat} {xs : List Value} (hi : i = 5 ∨ (m.getD i 0).testBit 5 = true) : StabF m (EI r) i (.p (POi base n xs)) := fun j hj hm u w w' hE h => by
  have h3 : j ≠ 5 := by
    rintro rfl
    rcases hi with rfl | hi
    · exact hj rfl
    · rw [hi] at hm; cases hm
  exact own_below (show w.ownsRow _ _ _ _ _ _ from h) (hE.2 h3)
theorem uni_at_lt {la lb : List Int} {x y : Int} (ha : la[0]? = some x) (hb : lb[0]? = some y) (h : x < y) : uni la lb = x :: uni la.tail lb := by
  cases la with
  | nil => cases ha
  | cons a la => cases lb with
    | nil => cases hb
    | cons b lb => simp at ha hb; subst ha hb; exact uni_lt h _ _
theorem uni_at_gt {la lb : List Int} {x y : Int} (ha : la[0]? = some x) (hb : lb[0]? = some y) (h : y < x) : uni la lb = y :: uni la lb.tail := by
  cases la with
  | nil => cases ha
  | cons a la => cases lb with
    | nil => cases hb
    | cons b lb => simp at ha hb; subst ha hb; exact uni_gt h _ _
theorem uni_at_eq {la lb : List Int} {x : Int} (ha : la[0]? = some x) (hb : lb[0]? = some x) : uni la lb = x :: uni la.tail lb.tail := by
  cases la with
  | nil => cases ha
  | cons a la => cases lb with
    | nil => cases hb
    | cons b lb => simp at ha hb; subst ha hb; exact uni_eq _ _ _
set_option maxHeartbeats 4000000 in
set_option maxRecDepth 100000 in
theorem union_any (a b : Option Addr) (n c m d : Nat) (la0 lb0 : List Int) (w : World) (ha : IsI w a n la0) (hb : IsI w b m lb0) (hc : n ≤ c) (hd : m ≤ d) (hn : n ≤ 100000) (hm : m ≤ 100000) :
    Calls Try.prog 36 #[.slice a n c, .slice b m d] w fun e w' => ∃ v, e = .returned v ∧ w'.ownsRow w.heap.size 3 1 v (uni la0 lb0).length ((uni la0 lb0).map iv) ∧ Below w.heap.size w w' := by
  obtain ⟨i0, hi0, hz0, hz1, hz2⟩ := info_parts info_int
  have HA := hide ha
  have HB := hide hb
  clear ha hb
  go_enter Try.func36, Try.ntmps36
  go_wp2_with fail
  go_loopw [0, 1, 5] (fun va vb v5 wr => ∃ (A : Option Addr) (na ca : Nat) (la : List Int) (B : Option Addr) (nb cb : Nat) (lb : List Int) (out : List Int), va = .slice A na ca ∧ vb = .slice B nb cb ∧ na ≤ ca ∧ na ≤ n ∧ Hid (IsI w A na la) ∧ nb ≤ cb ∧ nb ≤ m ∧ Hid (IsI w B nb lb) ∧
    Hid (wr.ownsRow w.heap.size 3 1 v5 out.length (out.map iv)) ∧ Hid (uni la0 lb0 = out ++ uni la lb) ∧ out.length + na + nb ≤ n + m ∧ Below w.heap.size w wr) (fun va vb _ _ => lenV va + lenV vb)
  case atStart => exact ⟨a, n, c, la0, b, m, d, lb0, [], rfl, rfl, hc, Nat.le_refl _, HA, hd, Nat.le_refl _, HB, hide (World.ownsRow_nil _ _ _ _), hide rfl, by simp, bl_refl w⟩
  case round =>
    obtain ⟨A, na, ca, la, B, nb, cb, lb, out, rfl, rfl, hna, hnn, HIa, hnb, hnm, HIb, HO, HU, hol, hb⟩ := hrel
    by_cases hz : na = 0 ∨ nb = 0
    · have hfin : uni la lb = la ++ lb := by
        rcases hz with h | h
        · have : la = [] := List.eq_nil_of_length_eq_zero (by rw [← HIa.out.1]; exact h)
          rw [this]; simp [uni]
        · have : lb = [] := List.eq_nil_of_length_eq_zero (by rw [← HIb.out.1]; exact h)
          rw [this, uni_nil]; simp
      have HFIN := hide hfin
      clear hfin
      by_cases hza : na = 0
      · have hza' : ¬ (0 : Int) < (na : Int) := by omega
        clear hz
        subst hza
        go_wp2_with (first
          | (at_builtin; (refine wpList_append_rd _ rfl (.tmp 56) (.tmp 57) 22 rfl w.heap.size 3 i0 _ 1 8 Try.underlying22 hi0 hz0 hz1 hz2 rfl (by omega) u5 out.length (out.map iv) rfl HO.out A 0 ca (la.map iv) rfl (by rw [List.length_map, Nat.mul_one]; exact HIa.out.1.symm) (HIa.out.2.below hb) (one_iv la) (by simp only [maxLen]; omega) (by omega) hb.size ?_); intro v7 w7 hown7 hg7 hat7)
          | (at_builtin; (refine wpList_append_rd _ rfl (.tmp 58) (.tmp 59) 22 rfl w.heap.size 3 i0 _ 1 8 Try.underlying22 hi0 hz0 hz1 hz2 rfl (by omega) v7 (out.length + 0) (out.map iv ++ la.map iv) rfl hown7 B nb cb (lb.map iv) rfl (by rw [List.length_map, Nat.mul_one]; exact HIb.out.1.symm) (HIb.out.2.below (bl_grown hb hg7 (fun j hj => (HO.out.lt j hj).1))) (one_iv lb) (by simp only [maxLen]; omega) (by omega) (by have := hb.size; have := hg7.size; omega) ?_); intro v8 w8 hown8 hg8 hat8))
        go_ret
        refine ⟨v8, rfl, ?_, bl_grown (bl_grown hb hg7 (fun j hj => (HO.out.lt j hj).1)) hg8 (fun j hj => (hown7.lt j hj).1)⟩
        have e : uni la0 lb0 = out ++ la ++ lb := by rw [HU.out, HFIN.out, List.append_assoc]
        rw [e, List.length_append, List.length_append, ← HIa.out.1, ← HIb.out.1, List.map_append, List.map_append]
        exact hown8
      · have hza' : (0 : Int) < (na : Int) := by omega
        have hzb : nb = 0 := by omega
        clear hz
        subst hzb
        go_wp2_with (first
          | (at_builtin; (refine wpList_append_rd _ rfl (.tmp 56) (.tmp 57) 22 rfl w.heap.size 3 i0 _ 1 8 Try.underlying22 hi0 hz0 hz1 hz2 rfl (by omega) u5 out.length (out.map iv) rfl HO.out A na ca (la.map iv) rfl (by rw [List.length_map, Nat.mul_one]; exact HIa.out.1.symm) (HIa.out.2.below hb) (one_iv la) (by simp only [maxLen]; omega) (by omega) hb.size ?_); intro v7 w7 hown7 hg7 hat7)
          | (at_builtin; (refine wpList_append_rd _ rfl (.tmp 58) (.tmp 59) 22 rfl w.heap.size 3 i0 _ 1 8 Try.underlying22 hi0 hz0 hz1 hz2 rfl (by omega) v7 (out.length + na) (out.map iv ++ la.map iv) rfl hown7 B 0 cb (lb.map iv) rfl (by rw [List.length_map, Nat.mul_one]; exact HIb.out.1.symm) (HIb.out.2.below (bl_grown hb hg7 (fun j hj => (HO.out.lt j hj).1))) (one_iv lb) (by simp only [maxLen]; omega) (by omega) (by have := hb.size; have := hg7.size; omega) ?_); intro v8 w8 hown8 hg8 hat8))
        go_ret
        refine ⟨v8, rfl, ?_, bl_grown (bl_grown hb hg7 (fun j hj => (HO.out.lt j hj).1)) hg8 (fun j hj => (hown7.lt j hj).1)⟩
        have e : uni la0 lb0 = out ++ la ++ lb := by rw [HU.out, HFIN.out, List.append_assoc]
        rw [e, List.length_append, List.length_append, ← HIa.out.1, ← HIb.out.1, List.map_append, List.map_append]
        exact hown8
    have hna0 : (0 : Int) < (na : Int) := by omega
    have hnb0 : (0 : Int) < (nb : Int) := by omega
    obtain ⟨ba, oa, x, rfl, hbla, hla, ea⟩ := (HIa.out.below hb).at_ (k := 0) (by omega)
    obtain ⟨bb, ob, y, rfl, hblb, hlb, eb⟩ := (HIb.out.below hb).at_ (k := 0) (by omega)
    rw [Nat.add_zero] at ea eb
    have Hla := hide hla
    have Hlb := hide hlb
    obtain ⟨A1, n1a, c1a, hA1⟩ : ∃ A1 n1 c1, A1 = (if ca = 1 then some ⟨ba, oa, none⟩ else Option.map (fun x : Addr => x.add 1) (some ⟨ba, oa, none⟩)) ∧ n1 = na - 1 ∧ c1 = ca - 1 := ⟨_, _, _, rfl, rfl, rfl⟩
    obtain ⟨B1, n1b, c1b, hB1⟩ : ∃ A1 n1 c1, A1 = (if cb = 1 then some ⟨bb, ob, none⟩ else Option.map (fun x : Addr => x.add 1) (some ⟨bb, ob, none⟩)) ∧ n1 = nb - 1 ∧ c1 = cb - 1 := ⟨_, _, _, rfl, rfl, rfl⟩
    have ia1 : n1a ≤ c1a := by omega
    have ia2 : n1a < na := by omega
    have ib1 : n1b ≤ c1b := by omega
    have ib2 : n1b < nb := by omega
    have Hta : Hid (IsI w A1 n1a la.tail) := hide (by rw [hA1.1, hA1.2.1, ← List.drop_one]; exact HIa.out.drop 1 (by omega) hna)
    have Htb : Hid (IsI w B1 n1b lb.tail) := hide (by rw [hB1.1, hB1.2.1, ← List.drop_one]; exact HIb.out.drop 1 (by omega) hnb)
    have Ha1 := hide hA1
    have Hb1 := hide hB1
    have hba : ba < w.heap.size := by
      obtain ⟨b', o', _, he, hbb, _⟩ := HIa.out.at_ (k := 0) (by omega)
      injection he with he; injection he with q1 q2; omega
    have hbb : bb < w.heap.size := by
      obtain ⟨b', o', _, he, hbb, _⟩ := HIb.out.at_ (k := 0) (by omega)
      injection he with he; injection he with q1 q2; omega
    have HaN := hide (show some ba ≠ u5.ownBlock from fun e => by have := (HO.out.lt ba e.symm).1; omega)
    have HbN := hide (show some bb ≠ u5.ownBlock from fun e => by have := (HO.out.lt bb e.symm).1; omega)
    have ha1i : (1 : Int) ≤ (na : Int) := by omega
    have hb1i : (1 : Int) ≤ (nb : Int) := by omega
    have hol2 : out.length ≤ 200000 := by omega
    clear hA1 hB1 hla hlb hz
    by_cases hlt : x < y
    · go_wp2_with fail
      have f0 : ∀ wx, CB wr.drew wx → wx.cell? ⟨ba, oa, none⟩ = some (.int .i64 x) := fun wx h => h.cell ea
      have f1 : ∀ wx, CB wr.drew wx → wx.cell? ⟨bb, ob, none⟩ = some (.int .i64 y) := fun wx h => h.cell eb
      refine wp_region_K 7 (by kernel_rfl) (by kernel_rfl) (fun Q HQ => ?_)
      simp only [List.take_succ_cons, List.take_zero, List.map_cons, List.map_nil]
      repeat
        first | apply wpS_c rfl | apply wpS_gc rfl (guard_mk rfl rfl)
        focus
          intro ev wx hC hx
          (try simp [Op.operands, Call.operands, opndS, Slot.holds] at hx)
          go_simp
          try (first | exact rfl | exact ⟨Below.refl _ _, rfl⟩)
          done
        dsimp only [setS, List.set]
      refine wpS_nil (HQ _ fun wq hCq => ?_)
      simp only [closeS, List.drop_succ_cons, List.drop_zero, List.drop_nil]
      clear HQ f0 f1
      have hbq := hCq.below
      have HO' := hide (own_below HO.out hbq)
      have hb' : Below w.heap.size w wq := hb.trans (hbq.mono hb.size)
      have ea' : wq.cell? ⟨ba, oa, none⟩ = some (.int .i64 x) := (hbq.cell (lt_heap ea)).trans ea
      have eb' : wq.cell? ⟨bb, ob, none⟩ = some (.int .i64 y) := (hbq.cell (lt_heap eb)).trans eb
      clear ea eb hb HO hCq hbq
      obtain ⟨wr, hwr⟩ : ∃ wr, wr = wq := ⟨_, rfl⟩
      subst hwr
      have HO := HO'
      have hb := hb'
      have ea := ea'
      have eb := eb'
      clear HO' hb' ea' eb'
      have Ha := hide ea
      have Hb := hide eb
      have hrb : ∀ j, u5.ownBlock = some j → j < wr.heap.size := fun j hj => (HO.out.lt j hj).2
      have hgw : w.heap.size ≤ wr.heap.size := hb.size
      clear ea eb
      go_wp2_with fail
      have hstart : GI wr w.heap.size u5 out (fun _ => false) wr.drew := ⟨⟨rfl, rfl, rfl, Nat.le_refl _, fun _ _ _ => rfl⟩, fun _ => HO.out⟩
      refine wp_region_F 10 (GI wr w.heap.size u5 out) (EI u5.ownBlock) (by kernel_rfl) (by kernel_rfl) hstart (fun Q HQ => ?_)
      simp only [List.take_succ_cons, List.take_zero, List.map_cons, List.map_nil]
      apply wpF_c (v := u5) rfl
      focus
        intro L ev wx hG hL hM hx
        (try simp [Op.operands, Call.operands, opndS, Slot.holds] at hx)
        go_simp
        exact ⟨hG.same (Below.refl _ _) (by decide), EI.of (Below.refl _ _), rfl⟩
      dsimp only [setS, List.set]
      apply wpF_c rfl
      focus
        intro L ev wx hG hL hM hx
        (try simp [Op.operands, Call.operands, opndS, Slot.holds] at hx)
        go_simp
        exact ⟨hG.same (Below.refl _ _) (by decide), EI.of (Below.refl _ _), rfl⟩
      dsimp only [setS, List.set]
      apply wpF_c (v := .pointer (some ⟨ba, oa, none⟩)) rfl
      focus
        intro L ev wx hG hL hM hx
        (try simp [Op.operands, Call.operands, opndS, Slot.holds] at hx)
        go_simp
        exact ⟨hG.same (Below.refl _ _) (by decide), EI.of (Below.refl _ _), rfl⟩
      dsimp only [setS, List.set]
      apply wpF_c (v := .int .i64 x) rfl
      focus
        intro L ev wx hG hL hM hx
        (try simp [Op.operands, Call.operands, opndS, Slot.holds] at hx)
        have hcx := hG.cell Ha.out HaN.out
        go_simp
        exact ⟨hG.same (Below.refl _ _) (by decide), EI.of (Below.refl _ _), rfl⟩
      dsimp only [setS, List.set]
      refine wpF_p (R := PBi wr.heap.size x) rfl (stabPBi hrb) ?_ ?_
      focus
        intro L ev wx hG hL hM hx
        (try simp [Op.operands, Call.operands, opndS, Slot.holds] at hx)
        go_simp
        exact ⟨hG.same (bl_alloc (bl_refl wx) _) (by decide), EI.of (bl_alloc (bl_refl wx) _), wx.heap.size, rfl, hG.1.size, heap_alloc_new wx _⟩
      dsimp only [setS, List.set]
      refine wpF_p (R := POi w.heap.size (out.length + 1) (out.map iv ++ [iv x])) rfl (stabPOi (.inl rfl)) ?_ ?_
      focus
        intro L ev wx hG hL hM hx
        (try simp [Op.operands, Call.operands, opndS, Slot.holds] at hx)
        obtain ⟨hv1, gb, hv2, hgb, hcb2⟩ := hx
        have hrdx : Rd wx (some ⟨gb, 0, none⟩) [iv x] := .inr ⟨gb, 0, rfl, (Array.getElem?_eq_some_iff.1 hcb2).1, fun j v hv => by rw [Nat.zero_add, cell_of_row wx gb j _ _ _ hcb2]; simpa [iv] using hv⟩
        obtain ⟨v', w', hrun, h2, h3, h4⟩ := run_append_rd (P := Try.prog) wx w.heap.size 22 22 3 i0 _ 1 8 Try.underlying22 hi0 hz0 hz1 hz2 rfl (by omega) u5 out.length (out.map iv) (hG.2 hL) (some ⟨gb, 0, none⟩) 1 1 [iv x] rfl hrdx (one_iv [x]) (by simp only [maxLen]; omega) (by omega) (Nat.le_trans hgw hG.1.size)
        unfold execOp
        simp only [resolve, invoke, builtin, Sem.run_bind, Sem.run_pure, Result.andThen_ok, List.map_toArray, List.map_cons, List.map_nil, hv1, hv2, hrun]
        exact ⟨⟨hG.1.trans h3, fun h => by simp [upL] at h⟩, ⟨h3, fun h => absurd rfl h⟩, h2⟩
      dsimp only [setS, List.set]
      apply wpF_c rfl
      focus
        intro L ev wx hG hL hM hx
        (try simp [Op.operands, Call.operands, opndS, Slot.holds] at hx)
        go_simp
        exact ⟨hG.same (Below.refl _ _) (by decide), EI.of (Below.refl _ _), rfl⟩
      dsimp only [setS, List.set]
      apply wpF_c (v := .slice A1 n1a c1a) rfl
      focus
        intro L ev wx hG hL hM hx
        (try simp [Op.operands, Call.operands, opndS, Slot.holds] at hx)
        go_simp
        exact ⟨hG.same (Below.refl _ _) (by decide), EI.of (Below.refl _ _), by rw [Ha1.out.1, Ha1.out.2.1, Ha1.out.2.2]; rfl⟩
      dsimp only [setS, List.set]
      refine wpF_p (R := POi w.heap.size (out.length + 1) (out.map iv ++ [iv x])) rfl (stabPOi (.inr (by kernel_rfl))) ?_ ?_
      focus
        intro L ev wx hG hL hM hx
        (try simp [Op.operands, Call.operands, opndS, Slot.holds] at hx)
        go_simp
        exact ⟨hG.same (Below.refl _ _) (by decide), EI.of (Below.refl _ _), hx⟩
      dsimp only [setS, List.set]
      apply wpF_c rfl
      focus
        intro L ev wx hG hL hM hx
        (try simp [Op.operands, Call.operands, opndS, Slot.holds] at hx)
        go_simp
        exact ⟨hG.same (Below.refl _ _) (by decide), EI.of (Below.refl _ _), rfl⟩
      dsimp only [setS, List.set]
      refine wpF_nil (HQ _ fun w6 hG6 => ?_)
      simp only [closeS, List.drop_succ_cons, List.drop_zero, List.drop_nil]
      clear HQ hstart
      rintro v5 hown v36 - v37 -
      have HOW := hide (show w6.ownsRow w.heap.size 3 1 v5 (out ++ [x]).length ((out ++ [x]).map iv) by rw [List.map_append, List.length_append]; exact hown)
      have hb06 : Below w.heap.size w w6 := bl_grown hb hG6.1 (fun j hj => (HO.out.lt j hj).1)
      clear hown hG6
      go_wp2
      go_roundw
      case rel =>
        exact ⟨A1, n1a, c1a, la.tail, some ⟨bb, ob, none⟩, nb, cb, lb, out ++ [x], rfl, rfl, by omega, by omega, Hta, hnb, by omega, HIb, HOW, hide (by rw [HU.out, uni_at_lt Hla.out Hlb.out hlt]; simp), by simp; omega, hb06⟩
      case measure => simp [lenV]; omega
    by_cases hgt : y < x
    · go_wp2_with fail
      have f0 : ∀ wx, CB wr.drew wx → wx.cell? ⟨ba, oa, none⟩ = some (.int .i64 x) := fun wx h => h.cell ea
      have f1 : ∀ wx, CB wr.drew wx → wx.cell? ⟨bb, ob, none⟩ = some (.int .i64 y) := fun wx h => h.cell eb
      refine wp_region_K 7 (by kernel_rfl) (by kernel_rfl) (fun Q HQ => ?_)
      simp only [List.take_succ_cons, List.take_zero, List.map_cons, List.map_nil]
      repeat
        first | apply wpS_c rfl | apply wpS_gc rfl (guard_mk rfl rfl)
        focus
          intro ev wx hC hx
          (try simp [Op.operands, Call.operands, opndS, Slot.holds] at hx)
          go_simp
          try (first | exact rfl | exact ⟨Below.refl _ _, rfl⟩)
          done
        dsimp only [setS, List.set]
      refine wpS_nil (HQ _ fun wq hCq => ?_)
      simp only [closeS, List.drop_succ_cons, List.drop_zero, List.drop_nil]
      clear HQ f0 f1
      have hbq := hCq.below
      have HO' := hide (own_below HO.out hbq)
      have hb' : Below w.heap.size w wq := hb.trans (hbq.mono hb.size)
      have ea' : wq.cell? ⟨ba, oa, none⟩ = some (.int .i64 x) := (hbq.cell (lt_heap ea)).trans ea
      have eb' : wq.cell? ⟨bb, ob, none⟩ = some (.int .i64 y) := (hbq.cell (lt_heap eb)).trans eb
      clear ea eb hb HO hCq hbq
      obtain ⟨wr, hwr⟩ : ∃ wr, wr = wq := ⟨_, rfl⟩
      subst hwr
      have HO := HO'
      have hb := hb'
      have ea := ea'
      have eb := eb'
      clear HO' hb' ea' eb'
      go_wp2_with fail
      have f0 : ∀ wx, CB wr.drew wx → wx.cell? ⟨ba, oa, none⟩ = some (.int .i64 x) := fun wx h => h.cell ea
      have f1 : ∀ wx, CB wr.drew wx → wx.cell? ⟨bb, ob, none⟩ = some (.int .i64 y) := fun wx h => h.cell eb
      refine wp_region_K 7 (by kernel_rfl) (by kernel_rfl) (fun Q HQ => ?_)
      simp only [List.take_succ_cons, List.take_zero, List.map_cons, List.map_nil]
      repeat
        first | apply wpS_c rfl | apply wpS_gc rfl (guard_mk rfl rfl)
        focus
          intro ev wx hC hx
          (try simp [Op.operands, Call.operands, opndS, Slot.holds] at hx)
          go_simp
          try (first | exact rfl | exact ⟨Below.refl _ _, rfl⟩)
          done
        dsimp only [setS, List.set]
      refine wpS_nil (HQ _ fun wq hCq => ?_)
      simp only [closeS, List.drop_succ_cons, List.drop_zero, List.drop_nil]
      clear HQ f0 f1
      have hbq := hCq.below
      have HO' := hide (own_below HO.out hbq)
      have hb' : Below w.heap.size w wq := hb.trans (hbq.mono hb.size)
      have ea' : wq.cell? ⟨ba, oa, none⟩ = some (.int .i64 x) := (hbq.cell (lt_heap ea)).trans ea
      have eb' : wq.cell? ⟨bb, ob, none⟩ = some (.int .i64 y) := (hbq.cell (lt_heap eb)).trans eb
      clear ea eb hb HO hCq hbq
      obtain ⟨wr, hwr⟩ : ∃ wr, wr = wq := ⟨_, rfl⟩
      subst hwr
      have HO := HO'
      have hb := hb'
      have ea := ea'
      have eb := eb'
      clear HO' hb' ea' eb'
      have Ha := hide ea
      have Hb := hide eb
      have hrb : ∀ j, u5.ownBlock = some j → j < wr.heap.size := fun j hj => (HO.out.lt j hj).2
      have hgw : w.heap.size ≤ wr.heap.size := hb.size
      clear ea eb
      go_wp2_with fail
      have hstart : GI wr w.heap.size u5 out (fun _ => false) wr.drew := ⟨⟨rfl, rfl, rfl, Nat.le_refl _, fun _ _ _ => rfl⟩, fun _ => HO.out⟩
      refine wp_region_F 10 (GI wr w.heap.size u5 out) (EI u5.ownBlock) (by kernel_rfl) (by kernel_rfl) hstart (fun Q HQ => ?_)
      simp only [List.take_succ_cons, List.take_zero, List.map_cons, List.map_nil]
      apply wpF_c (v := u5) rfl
      focus
        intro L ev wx hG hL hM hx
        (try simp [Op.operands, Call.operands, opndS, Slot.holds] at hx)
        go_simp
        exact ⟨hG.same (Below.refl _ _) (by decide), EI.of (Below.refl _ _), rfl⟩
      dsimp only [setS, List.set]
      apply wpF_c rfl
      focus
        intro L ev wx hG hL hM hx
        (try simp [Op.operands, Call.operands, opndS, Slot.holds] at hx)
        go_simp
        exact ⟨hG.same (Below.refl _ _) (by decide), EI.of (Below.refl _ _), rfl⟩
      dsimp only [setS, List.set]
      apply wpF_c (v := .pointer (some ⟨bb, ob, none⟩)) rfl
      focus
        intro L ev wx hG hL hM hx
        (try simp [Op.operands, Call.operands, opndS, Slot.holds] at hx)
        go_simp
        exact ⟨hG.same (Below.refl _ _) (by decide), EI.of (Below.refl _ _), rfl⟩
      dsimp only [setS, List.set]
      apply wpF_c (v := .int .i64 y) rfl
      focus
        intro L ev wx hG hL hM hx
        (try simp [Op.operands, Call.operands, opndS, Slot.holds] at hx)
        have hcx := hG.cell Hb.out HbN.out
        go_simp
        exact ⟨hG.same (Below.refl _ _) (by decide), EI.of (Below.refl _ _), rfl⟩
      dsimp only [setS, List.set]
      refine wpF_p (R := PBi wr.heap.size y) rfl (stabPBi hrb) ?_ ?_
      focus
        intro L ev wx hG hL hM hx
        (try simp [Op.operands, Call.operands, opndS, Slot.holds] at hx)
        go_simp
        exact ⟨hG.same (bl_alloc (bl_refl wx) _) (by decide), EI.of (bl_alloc (bl_refl wx) _), wx.heap.size, rfl, hG.1.size, heap_alloc_new wx _⟩
      dsimp only [setS, List.set]
      refine wpF_p (R := POi w.heap.size (out.length + 1) (out.map iv ++ [iv y])) rfl (stabPOi (.inl rfl)) ?_ ?_
      focus
        intro L ev wx hG hL hM hx
        (try simp [Op.operands, Call.operands, opndS, Slot.holds] at hx)
        obtain ⟨hv1, gb, hv2, hgb, hcb2⟩ := hx
        have hrdx : Rd wx (some ⟨gb, 0, none⟩) [iv y] := .inr ⟨gb, 0, rfl, (Array.getElem?_eq_some_iff.1 hcb2).1, fun j v hv => by rw [Nat.zero_add, cell_of_row wx gb j _ _ _ hcb2]; simpa [iv] using hv⟩
        obtain ⟨v', w', hrun, h2, h3, h4⟩ := run_append_rd (P := Try.prog) wx w.heap.size 22 22 3 i0 _ 1 8 Try.underlying22 hi0 hz0 hz1 hz2 rfl (by omega) u5 out.length (out.map iv) (hG.2 hL) (some ⟨gb, 0, none⟩) 1 1 [iv y] rfl hrdx (one_iv [y]) (by simp only [maxLen]; omega) (by omega) (Nat.le_trans hgw hG.1.size)
        unfold execOp
        simp only [resolve, invoke, builtin, Sem.run_bind, Sem.run_pure, Result.andThen_ok, List.map_toArray, List.map_cons, List.map_nil, hv1, hv2, hrun]
        exact ⟨⟨hG.1.trans h3, fun h => by simp [upL] at h⟩, ⟨h3, fun h => absurd rfl h⟩, h2⟩
      dsimp only [setS, List.set]
      apply wpF_c rfl
      focus
        intro L ev wx hG hL hM hx
        (try simp [Op.operands, Call.operands, opndS, Slot.holds] at hx)
        go_simp
        exact ⟨hG.same (Below.refl _ _) (by decide), EI.of (Below.refl _ _), rfl⟩
      dsimp only [setS, List.set]
      apply wpF_c (v := .slice B1 n1b c1b) rfl
      focus
        intro L ev wx hG hL hM hx
        (try simp [Op.operands, Call.operands, opndS, Slot.holds] at hx)
        go_simp
        exact ⟨hG.same (Below.refl _ _) (by decide), EI.of (Below.refl _ _), by rw [Hb1.out.1, Hb1.out.2.1, Hb1.out.2.2]; rfl⟩
      dsimp only [setS, List.set]
      refine wpF_p (R := POi w.heap.size (out.length + 1) (out.map iv ++ [iv y])) rfl (stabPOi (.inr (by kernel_rfl))) ?_ ?_
      focus
        intro L ev wx hG hL hM hx
        (try simp [Op.operands, Call.operands, opndS, Slot.holds] at hx)
        go_simp
        exact ⟨hG.same (Below.refl _ _) (by decide), EI.of (Below.refl _ _), hx⟩
      dsimp only [setS, List.set]
      apply wpF_c rfl
      focus
        intro L ev wx hG hL hM hx
        (try simp [Op.operands, Call.operands, opndS, Slot.holds] at hx)
        go_simp
        exact ⟨hG.same (Below.refl _ _) (by decide), EI.of (Below.refl _ _), rfl⟩
      dsimp only [setS, List.set]
      refine wpF_nil (HQ _ fun w6 hG6 => ?_)
      simp only [closeS, List.drop_succ_cons, List.drop_zero, List.drop_nil]
      clear HQ hstart
      rintro v5 hown v52 - v53 -
      have HOW := hide (show w6.ownsRow w.heap.size 3 1 v5 (out ++ [y]).length ((out ++ [y]).map iv) by rw [List.map_append, List.length_append]; exact hown)
      have hb06 : Below w.heap.size w w6 := bl_grown hb hG6.1 (fun j hj => (HO.out.lt j hj).1)
      clear hown hG6
      go_wp2
      go_roundw
      case rel =>
        exact ⟨some ⟨ba, oa, none⟩, na, ca, la, B1, n1b, c1b, lb.tail, out ++ [y], rfl, rfl, hna, by omega, HIa, by omega, by omega, Htb, HOW, hide (by rw [HU.out, uni_at_gt Hla.out Hlb.out hgt]; simp), by simp; omega, hb06⟩
      case measure => simp [lenV]; omega
    obtain rfl : x = y := by omega
    go_wp2_with fail
    have f0 : ∀ wx, CB wr.drew wx → wx.cell? ⟨ba, oa, none⟩ = some (.int .i64 x) := fun wx h => h.cell ea
    have f1 : ∀ wx, CB wr.drew wx → wx.cell? ⟨bb, ob, none⟩ = some (.int .i64 x) := fun wx h => h.cell eb
    refine wp_region_K 7 (by kernel_rfl) (by kernel_rfl) (fun Q HQ => ?_)
    simp only [List.take_succ_cons, List.take_zero, List.map_cons, List.map_nil]
    repeat
      first | apply wpS_c rfl | apply wpS_gc rfl (guard_mk rfl rfl)
      focus
        intro ev wx hC hx
        (try simp [Op.operands, Call.operands, opndS, Slot.holds] at hx)
        go_simp
        try (first | exact rfl | exact ⟨Below.refl _ _, rfl⟩)
        done
      dsimp only [setS, List.set]
    refine wpS_nil (HQ _ fun wq hCq => ?_)
    simp only [closeS, List.drop_succ_cons, List.drop_zero, List.drop_nil]
    clear HQ f0 f1
    have hbq := hCq.below
    have HO' := hide (own_below HO.out hbq)
    have hb' : Below w.heap.size w wq := hb.trans (hbq.mono hb.size)
    have ea' : wq.cell? ⟨ba, oa, none⟩ = some (.int .i64 x) := (hbq.cell (lt_heap ea)).trans ea
    have eb' : wq.cell? ⟨bb, ob, none⟩ = some (.int .i64 x) := (hbq.cell (lt_heap eb)).trans eb
    clear ea eb hb HO hCq hbq
    obtain ⟨wr, hwr⟩ : ∃ wr, wr = wq := ⟨_, rfl⟩
    subst hwr
    have HO := HO'
    have hb := hb'
    have ea := ea'
    have eb := eb'
    clear HO' hb' ea' eb'
    go_wp2_with fail
    have f0 : ∀ wx, CB wr.drew wx → wx.cell? ⟨ba, oa, none⟩ = some (.int .i64 x) := fun wx h => h.cell ea
    have f1 : ∀ wx, CB wr.drew wx → wx.cell? ⟨bb, ob, none⟩ = some (.int .i64 x) := fun wx h => h.cell eb
    refine wp_region_K 7 (by kernel_rfl) (by kernel_rfl) (fun Q HQ => ?_)
    simp only [List.take_succ_cons, List.take_zero, List.map_cons, List.map_nil]
    repeat
      first | apply wpS_c rfl | apply wpS_gc rfl (guard_mk rfl rfl)
      focus
        intro ev wx hC hx
        (try simp [Op.operands, Call.operands, opndS, Slot.holds] at hx)
        go_simp
        try (first | exact rfl | exact ⟨Below.refl _ _, rfl⟩)
        done
      dsimp only [setS, List.set]
    refine wpS_nil (HQ _ fun wq hCq => ?_)
    simp only [closeS, List.drop_succ_cons, List.drop_zero, List.drop_nil]
    clear HQ f0 f1
    have hbq := hCq.below
    have HO' := hide (own_below HO.out hbq)
    have hb' : Below w.heap.size w wq := hb.trans (hbq.mono hb.size)
    have ea' : wq.cell? ⟨ba, oa, none⟩ = some (.int .i64 x) := (hbq.cell (lt_heap ea)).trans ea
    have eb' : wq.cell? ⟨bb, ob, none⟩ = some (.int .i64 x) := (hbq.cell (lt_heap eb)).trans eb
    clear ea eb hb HO hCq hbq
    obtain ⟨wr, hwr⟩ : ∃ wr, wr = wq := ⟨_, rfl⟩
    subst hwr
    have HO := HO'
    have hb := hb'
    have ea := ea'
    have eb := eb'
    clear HO' hb' ea' eb'
    have Ha := hide ea
    have Hb := hide eb
    have hrb : ∀ j, u5.ownBlock = some j → j < wr.heap.size := fun j hj => (HO.out.lt j hj).2
    have hgw : w.heap.size ≤ wr.heap.size := hb.size
    clear ea eb
    go_wp2_with fail
    have hstart : GI wr w.heap.size u5 out (fun _ => false) wr.drew := ⟨⟨rfl, rfl, rfl, Nat.le_refl _, fun _ _ _ => rfl⟩, fun _ => HO.out⟩
    refine wp_region_F 13 (GI wr w.heap.size u5 out) (EI u5.ownBlock) (by kernel_rfl) (by kernel_rfl) hstart (fun Q HQ => ?_)
    simp only [List.take_succ_cons, List.take_zero, List.map_cons, List.map_nil]
    apply wpF_c (v := u5) rfl
    focus
      intro L ev wx hG hL hM hx
      (try simp [Op.operands, Call.operands, opndS, Slot.holds] at hx)
      go_simp
      exact ⟨hG.same (Below.refl _ _) (by decide), EI.of (Below.refl _ _), rfl⟩
    dsimp only [setS, List.set]
    apply wpF_c rfl
    focus
      intro L ev wx hG hL hM hx
      (try simp [Op.operands, Call.operands, opndS, Slot.holds] at hx)
      go_simp
      exact ⟨hG.same (Below.refl _ _) (by decide), EI.of (Below.refl _ _), rfl⟩
    dsimp only [setS, List.set]
    apply wpF_c (v := .pointer (some ⟨ba, oa, none⟩)) rfl
    focus
      intro L ev wx hG hL hM hx
      (try simp [Op.operands, Call.operands, opndS, Slot.holds] at hx)
      go_simp
      exact ⟨hG.same (Below.refl _ _) (by decide), EI.of (Below.refl _ _), rfl⟩
    dsimp only [setS, List.set]
    apply wpF_c (v := .int .i64 x) rfl
    focus
      intro L ev wx hG hL hM hx
      (try simp [Op.operands, Call.operands, opndS, Slot.holds] at hx)
      have hcx := hG.cell Ha.out HaN.out
      go_simp
      exact ⟨hG.same (Below.refl _ _) (by decide), EI.of (Below.refl _ _), rfl⟩
    dsimp only [setS, List.set]
    refine wpF_p (R := PBi wr.heap.size x) rfl (stabPBi hrb) ?_ ?_
    focus
      intro L ev wx hG hL hM hx
      (try simp [Op.operands, Call.operands, opndS, Slot.holds] at hx)
      go_simp
      exact ⟨hG.same (bl_alloc (bl_refl wx) _) (by decide), EI.of (bl_alloc (bl_refl wx) _), wx.heap.size, rfl, hG.1.size, heap_alloc_new wx _⟩
    dsimp only [setS, List.set]
    refine wpF_p (R := POi w.heap.size (out.length + 1) (out.map iv ++ [iv x])) rfl (stabPOi (.inl rfl)) ?_ ?_
    focus
      intro L ev wx hG hL hM hx
      (try simp [Op.operands, Call.operands, opndS, Slot.holds] at hx)
      obtain ⟨hv1, gb, hv2, hgb, hcb2⟩ := hx
      have hrdx : Rd wx (some ⟨gb, 0, none⟩) [iv x] := .inr ⟨gb, 0, rfl, (Array.getElem?_eq_some_iff.1 hcb2).1, fun j v hv => by rw [Nat.zero_add, cell_of_row wx gb j _ _ _ hcb2]; simpa [iv] using hv⟩
      obtain ⟨v', w', hrun, h2, h3, h4⟩ := run_append_rd (P := Try.prog) wx w.heap.size 22 22 3 i0 _ 1 8 Try.underlying22 hi0 hz0 hz1 hz2 rfl (by omega) u5 out.length (out.map iv) (hG.2 hL) (some ⟨gb, 0, none⟩) 1 1 [iv x] rfl hrdx (one_iv [x]) (by simp only [maxLen]; omega) (by omega) (Nat.le_trans hgw hG.1.size)
      unfold execOp
      simp only [resolve, invoke, builtin, Sem.run_bind, Sem.run_pure, Result.andThen_ok, List.map_toArray, List.map_cons, List.map_nil, hv1, hv2, hrun]
      exact ⟨⟨hG.1.trans h3, fun h => by simp [upL] at h⟩, ⟨h3, fun h => absurd rfl h⟩, h2⟩
    dsimp only [setS, List.set]
    apply wpF_c rfl
    focus
      intro L ev wx hG hL hM hx
      (try simp [Op.operands, Call.operands, opndS, Slot.holds] at hx)
      go_simp
      exact ⟨hG.same (Below.refl _ _) (by decide), EI.of (Below.refl _ _), rfl⟩
    dsimp only [setS, List.set]
    apply wpF_c (v := .slice A1 n1a c1a) rfl
    focus
      intro L ev wx hG hL hM hx
      (try simp [Op.operands, Call.operands, opndS, Slot.holds] at hx)
      go_simp
      exact ⟨hG.same (Below.refl _ _) (by decide), EI.of (Below.refl _ _), by rw [Ha1.out.1, Ha1.out.2.1, Ha1.out.2.2]; rfl⟩
    dsimp only [setS, List.set]
    apply wpF_c rfl
    focus
      intro L ev wx hG hL hM hx
      (try simp [Op.operands, Call.operands, opndS, Slot.holds] at hx)
      go_simp
      exact ⟨hG.same (Below.refl _ _) (by decide), EI.of (Below.refl _ _), rfl⟩
    dsimp only [setS, List.set]
    apply wpF_c (v := .slice B1 n1b c1b) rfl
    focus
      intro L ev wx hG hL hM hx
      (try simp [Op.operands, Call.operands, opndS, Slot.holds] at hx)
      go_simp
      exact ⟨hG.same (Below.refl _ _) (by decide), EI.of (Below.refl _ _), by rw [Hb1.out.1, Hb1.out.2.1, Hb1.out.2.2]; rfl⟩
    dsimp only [setS, List.set]
    refine wpF_p (R := POi w.heap.size (out.length + 1) (out.map iv ++ [iv x])) rfl (stabPOi (.inr (by kernel_rfl))) ?_ ?_
    focus
      intro L ev wx hG hL hM hx
      (try simp [Op.operands, Call.operands, opndS, Slot.holds] at hx)
      go_simp
      exact ⟨hG.same (Below.refl _ _) (by decide), EI.of (Below.refl _ _), hx⟩
    dsimp only [setS, List.set]
    apply wpF_c rfl
    focus
      intro L ev wx hG hL hM hx
      (try simp [Op.operands, Call.operands, opndS, Slot.holds] at hx)
      go_simp
      exact ⟨hG.same (Below.refl _ _) (by decide), EI.of (Below.refl _ _), rfl⟩
    dsimp only [setS, List.set]
    apply wpF_c rfl
    focus
      intro L ev wx hG hL hM hx
      (try simp [Op.operands, Call.operands, opndS, Slot.holds] at hx)
      go_simp
      exact ⟨hG.same (Below.refl _ _) (by decide), EI.of (Below.refl _ _), rfl⟩
    dsimp only [setS, List.set]
    refine wpF_nil (HQ _ fun w6 hG6 => ?_)
    simp only [closeS, List.drop_succ_cons, List.drop_zero, List.drop_nil]
    clear HQ hstart
    rintro v5 hown v18 - v19 -
    have HOW := hide (show w6.ownsRow w.heap.size 3 1 v5 (out ++ [x]).length ((out ++ [x]).map iv) by rw [List.map_append, List.length_append]; exact hown)
    have hb06 : Below w.heap.size w w6 := bl_grown hb hG6.1 (fun j hj => (HO.out.lt j hj).1)
    clear hown hG6
    go_wp2
    go_roundw
    case rel =>
      exact ⟨A1, n1a, c1a, la.tail, B1, n1b, c1b, lb.tail, out ++ [x], rfl, rfl, by omega, by omega, Hta, by omega, by omega, Htb, HOW, hide (by rw [HU.out, uni_at_eq Hla.out Hlb.out]; simp), by simp; omega, hb06⟩
    case measure => simp [lenV]; omega
end Go.Proofs.Ytbicpnhgokngeaa
