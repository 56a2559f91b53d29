/- The journal's iterator over the records of a file. -/
import Derived.RangeFuncNested
import Derived.RangeFuncBox
import Derived.RangeFuncBound
import Derived.RangeFuncCalls
import Derived.RangeFuncLeaves
import Derived.Shelf.Abstract
import Derived.Shelf.RegionOpen
import Derived.OwnWalkIn
import Derived.TacticsInMore
import Derived.LoopNIn
import Derived.LoopIn
import Derived.Test.YthkncfenhfieoaaJNextW
namespace Go.Proofs.Ythkncfenhfieoaa
open Go.RowKit Go.Shelf
set_option linter.unusedVariables false
set_option linter.unusedSimpArgs false
attribute [local go_sem] Oper.semAt_some
/-- The records with the places where they end. -/
def wE : Nat → List Rec → List (Nat × Rec)
  | _, [] => []
  | e, r :: l => (e + (9 + r.2.length), r) :: wE (e + (9 + r.2.length)) l
theorem wE_snoc (r : Rec) : ∀ (l : List Rec) (e : Nat), wE e (l ++ [r]) = wE e l ++ [(e + (encL l).length + (9 + r.2.length), r)]
  | [], e => by simp [wE, encL]
  | q :: l, e => by
    show _ :: wE _ (l ++ [r]) = _
    rw [wE_snoc r l]
    simp only [wE, List.cons_append, encL_cons, List.length_append, encR_length]
    congr 5
    omega
theorem wE_length : ∀ (l : List Rec) (e : Nat), (wE e l).length = l.length
  | [], _ => rfl
  | q :: l, e => by show (wE _ l).length + 1 = _; rw [wE_length l]; rfl
theorem wE_snd : ∀ (l : List Rec) (e : Nat), (wE e l).map (·.2) = l
  | [], _ => rfl
  | q :: l, e => by show q :: (wE _ l).map _ = _; rw [wE_snd l]
def encX (x : Nat × Rec) : Array Value := #[.int .i64 (x.1 : Int), recV x.2]
/-- What a round must keep: what lay below, and the box of the file's text. -/
def KpJ (n₀ Bn : Nat) (W W' : World) : Prop := Below n₀ W W' ∧ ∀ v, W.cell? ⟨Bn, 0, none⟩ = some v → W'.cell? ⟨Bn, 0, none⟩ = some v
theorem kpJ_t {n₀ Bn : Nat} {A B C : World} (h : KpJ n₀ Bn A B) (k : KpJ n₀ Bn B C) : KpJ n₀ Bn A C := ⟨h.1.trans k.1, fun v hv => k.2 v (h.2 v hv)⟩
theorem kpJ_b {n₀ Bn : Nat} {w : World} (hn : n₀ ≤ w.heap.size) (W : World) (l : Nat) (o o' : Obj) (hl : w.heap.size ≤ l) (h : W.heap[l]? = some o) (h1 : o.isCells = false) (h2 : o.isWalk = false) : KpJ n₀ Bn W (W.putObj l o') := by
  refine ⟨belowK_b hn W l o o' hl h h1 h2, fun v hv => ?_⟩
  by_cases e : Bn = l
  · subst e
    unfold World.cell? at hv
    simp only [h] at hv
    cases o <;> simp_all [Obj.isCells]
  · have hg := grownBy_putObj' W l o'
    exact hg.cell hv (by simpa using e)
theorem below_grow {w w' : World} (hb : Below w.heap.size w w') : w.grownBy w' none := ⟨hb.os, hb.tape, hb.output, hb.size, fun k hk _ => hb.block k hk⟩
set_option maxRecDepth 100000 in
set_option maxHeartbeats 2000000 in
theorem iter_in (n : Nat) (hn : 1 ≤ n) (l Bn n₀ : Nat) (S : ByteArray) (s : List UInt8) (recs : List Rec) (rest : List UInt8) (hS : S = bstr s) (hs : s.length ≤ 100000) (hsc : IsScan s recs rest) (J Jx : List (Nat × Rec) → World → Prop) (W0 : World)
    (hJ : AbidesFrom W0.heap.size J)
    (hY : ∀ pre x W, J pre W → pre.length < recs.length → YieldAt Fence.wide (n - 1) Try.prog l (encX x) W fun e W' =>
      (e = .returned (.bool true) ∧ J (pre ++ [x]) W' ∧ KpJ n₀ Bn W W') ∨ (e = .returned (.bool false) ∧ Jx (pre ++ [x]) W'))
    (hBn : W0.cell? ⟨Bn, 0, none⟩ = some (.string S)) (h0 : J [] W0) :
    CallsIn Fence.wide n Try.prog 45 #[.func (.yield l) #[] #[], .pointer (some ⟨Bn, 0, none⟩)] W0 fun e W' => (∃ v, e = .returned v) ∧
      ((∃ ys, ys = wE 0 recs ∧ J ys W') ∨ (∃ pre, True ∧ Jx pre W')) := by
  have hm := str_size hS
  obtain ⟨m, hmm⟩ : ∃ m, m = s.length := ⟨_, rfl⟩
  rw [← hmm] at hm hs
  have HMM := hide hmm
  have HS := hide hS
  have HJ := hide hJ
  have HY := hide hY
  have HSC := hide hsc
  clear hmm hS hJ hY hsc
  refine callsIn_of_wp Try.func45 rfl trivial ?_ rfl
  simp only [Try.ntmps45, List.size_toArray, List.length_cons, List.length_nil, Nat.reduceAdd, Nat.reduceSub, Array.replicate_succ, Array.replicate_zero, List.push_toArray, List.append_toArray, List.nil_append, List.cons_append]
  gi_wp2
  gi_loopw [3] (fun p wr => ∃ (dn td : List Rec) (a : Nat), p = .int .i64 (a : Int) ∧ Hid (recs = dn ++ td) ∧ Hid (a = (encL dn).length) ∧ Hid (J (wE 0 dn) wr) ∧ wr.cell? ⟨Bn, 0, none⟩ = some (.string S) ∧ a ≤ m)
    (fun p _ => m - (intOf p).toNat)
  case atStart => exact ⟨[], recs, 0, rfl, hide rfl, hide rfl, hide h0, hBn, Nat.zero_le _⟩
  case round =>
    obtain ⟨dn, td, a, rfl, HD, HA, HJS, hc, ham⟩ := hrel
    have ham' : (a : Int) ≤ (m : Int) := by omega
    have hdrop : s.drop a = encL td ++ rest := by
      rw [HSC.out.eq, HD.out, encL_app, List.append_assoc, HA.out, List.drop_left]
    obtain ⟨X, hX⟩ : ∃ X, X = S.extract a m := ⟨_, rfl⟩
    have hXs : X = bstr (encL td ++ rest) := by rw [hX, str_sub HS.out, List.take_of_length_le (by rw [HMM.out]; exact Nat.le_refl _), hdrop]
    have hX' := hX.symm
    have HXS := hide hXs
    have HDR := hide hdrop
    clear hX hXs hdrop
    rcases td with _ | ⟨⟨k, p⟩, td⟩
    · have hnx : nextM (encL [] ++ rest) = none := HSC.out.stop
      gi_wp2
      refine ⟨trivial, ?_⟩
      refine (callsIn_wide.2 (next_any X _ wr HXS.out (by rw [← HDR.out, List.length_drop, ← HMM.out]; omega))).mono ?_
      rintro e w3 ⟨rfl, hb3⟩
      rw [hnx]
      unfold nextV
      clear hnx
      gi_wp2
      refine ⟨fun _ h => (by cases h), ?_⟩
      gi_wp2
      refine bodyPost_ret (results_none rfl _ _ _) rfl ?_
      refine ⟨⟨_, rfl⟩, .inl ⟨wE 0 dn, by rw [HD.out, List.append_nil], ?_⟩⟩
      exact HJ.out _ _ _ none HJS.out (below_grow (bl_alloc hb3 _)) (fun r e => by cases e)
    · have hok : okR (k, p) := HSC.out.ok (k, p) (by rw [HD.out]; simp)
      have hnx : nextM (encL ((k, p) :: td) ++ rest) = some (k, p) := by rw [encL_cons, List.append_assoc]; exact nextM_enc hok _
      obtain ⟨SP, hSP⟩ : ∃ SP, SP = bstr p := ⟨_, rfl⟩
      obtain ⟨q, hq⟩ : ∃ q, q = 9 + p.length := ⟨_, rfl⟩
      obtain ⟨b, hb⟩ : ∃ b, b = a + q := ⟨_, rfl⟩
      have eb : (a : Int) + (q : Int) = (b : Int) := by omega
      have hqz : ((q : Int) == 0) = false := by rw [beq_eq_false_iff_ne]; omega
      have hbm : b ≤ m := by
        have h1 := congrArg List.length HDR.out
        rw [List.length_drop, encL_cons, List.length_append, List.length_append, encR_length, ← HMM.out] at h1
        have : (9 + (k, p).2.length) = q := hq.symm
        omega
      have hx : wE 0 (dn ++ [(k, p)]) = wE 0 dn ++ [(b, (k, p))] := by
        rw [wE_snoc, hb, HA.out, hq, Nat.zero_add]
      have hbl : b = (encL (dn ++ [(k, p)])).length := by rw [encL_snoc, List.length_append, encR_length, ← HA.out, hb, hq]
      have hlen : (wE 0 dn).length < recs.length := by rw [wE_length, HD.out]; simp
      have HSP := hide hSP
      have HQ := hide hq
      have HX := hide hx
      have HBL := hide hbl
      have HLN := hide hlen
      have hq9 : 9 ≤ q := by omega
      have hq100 : q ≤ 100000 := by omega
      have HBB := hide hb
      have hb100 : b ≤ 100000 := by omega
      clear hSP hq hx hbl hlen hb
      gi_wp2
      refine ⟨trivial, ?_⟩
      refine (callsIn_wide.2 (next_any X _ wr HXS.out (by rw [← HDR.out, List.length_drop, ← HMM.out]; omega))).mono ?_
      rintro e w3 ⟨rfl, hb3⟩
      rw [hnx]
      unfold nextV recV
      simp only []
      rw [← HSP.out, ← HQ.out]
      have hc3 : w3.cell? ⟨Bn, 0, none⟩ = some (.string S) := (hb3.cell (lt_heap hc)).trans hc
      obtain ⟨w4, hw4⟩ : ∃ w4, w4 = w3.alloc (.cells #[.int .i64 k, .string SP] 37) := ⟨_, rfl⟩
      have hb4 : Below wr.heap.size wr w4 := by rw [hw4]; exact bl_alloc hb3 _
      have hj4 : J (wE 0 dn) w4 := HJ.out _ _ _ none HJS.out (below_grow hb4) (fun r e => by cases e)
      have hc4 : w4.cell? ⟨Bn, 0, none⟩ = some (.string S) := (hb4.cell (lt_heap hc)).trans hc
      obtain ⟨fn, tmps, assign, body, hy, hR⟩ := HY.out (wE 0 dn) (b, (k, p)) w4 hj4 HLN.out
      unfold encX recV at hy
      simp only [] at hy
      rw [← HSP.out, hw4] at hy
      have HW4 := hide hw4
      have HR := hide hR
      clear hw4 hR hnx hb3 hb4 hj4
      gi_wp2
      rw [← HW4.out]
      refine HR.out.mono ?_
      rintro e W3 (⟨rfl, hJ3, hk3⟩ | ⟨rfl, hJx3⟩)
      · have hc5 : W3.cell? ⟨Bn, 0, none⟩ = some (.string S) := hk3.2 _ hc4
        have HJ3 := hide hJ3
        clear hJ3 hk3
        gi_wp2
        go_roundw
        case rel => exact ⟨dn ++ [(k, p)], td, b, rfl, hide (by rw [HD.out]; simp), HBL, hide (by rw [HX.out]; exact HJ3.out), hc5, hbm⟩
        case measure => simp [intOf]; omega
      · gi_wp2
        refine bodyPost_ret (results_none rfl _ _ _) rfl ?_
        exact ⟨⟨_, rfl⟩, .inr ⟨_, trivial, hJx3⟩⟩
/-- The iterator's contract. -/
theorem iter_stops (n : Nat) (hn : 1 ≤ n) (Bn n₀ : Nat) (S : ByteArray) (s : List UInt8) (recs : List Rec) (rest : List UInt8) (hS : S = bstr s) (hs : s.length ≤ 100000) (hsc : IsScan s recs rest) (w : World)
    (hBn : w.cell? ⟨Bn, 0, none⟩ = some (.string S)) :
    SeqStopsK Fence.wide n Try.prog 45 #[.pointer (some ⟨Bn, 0, none⟩)] encX (KpJ n₀ Bn) (fun ys => ys = wE 0 recs) (fun _ => True) recs.length w := fun l J Jx W hW hJ _ hY h0 =>
  iter_in n hn l Bn n₀ S s recs rest hS hs hsc J Jx W hJ hY ((hW.cell (p := ⟨Bn, 0, none⟩) (lt_heap hBn)).trans hBn) h0
set_option maxRecDepth 100000 in
theorem records_any (S : ByteArray) (w : World) :
    Calls Try.prog 27 #[.string S] w fun e w' => e = .returned (.func (.func 45) #[] #[.pointer (some ⟨w.heap.size, 0, none⟩)]) ∧ w' = w.alloc (.cells #[.string S] 9) := by
  go_enter Try.func27, Try.ntmps27
  go_wp2
  go_ret
  exact ⟨rfl, rfl⟩
end Go.Proofs.Ythkncfenhfieoaa
