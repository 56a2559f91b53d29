/- The walks of the program's put, drop. -/
import Derived.Test.YtjpmfiicbokdcaaDtW
import Derived.Test.YtjpmfiicbokdcaaRegG
namespace Go.Proofs.Ytjpmfiicbokdcaa
open Go.RowKit
set_option linter.unusedVariables false
set_option linter.unusedSimpArgs false
theorem take_app {α : Type} {A B l : List α} (h : A ++ B = l) : l.take A.length = A := by subst h; exact List.take_left
theorem drop_app {α : Type} {A B l : List α} (h : A ++ B = l) : l.drop A.length = B := by subst h; exact List.drop_left
theorem take_pos (l : List Ent) (s : List UInt8) : l.take (posM l s) = l.takeWhile fun e => nlt e.1 s := take_app List.takeWhile_append_dropWhile
theorem drop_pos (l : List Ent) (s : List UInt8) : l.drop (posM l s) = l.dropWhile fun e => nlt e.1 s := drop_app List.takeWhile_append_dropWhile
theorem ins_pos (l : List Ent) (x : Ent) : insM l x = l.take (posM l x.1) ++ x :: l.drop (posM l x.1) := by
  rw [take_pos, drop_pos]; rfl
theorem drop_not {l : List Ent} {s : List UInt8} (h : hasM l s = false) : dropM l s = l := by
  unfold dropM
  rw [List.filter_eq_self]
  intro e he
  unfold hasM at h
  rw [List.any_eq_false] at h
  have := h e he
  simpa using this
theorem pos_facts {l : List Ent} (h : Srt l) (s : List UInt8) : (∀ k e, k < posM l s → l[k]? = some e → nlt e.1 s = true) ∧ (∀ k e, posM l s ≤ k → l[k]? = some e → nlt e.1 s = false) := by
  induction l with
  | nil => exact ⟨fun k e _ he => by simp at he, fun k e _ he => by simp at he⟩
  | cons x l ih =>
    have ih := ih h.tail
    unfold posM at ih ⊢
    rw [List.takeWhile_cons]
    rcases hx : nlt x.1 s with _ | _
    · rw [if_neg (by simp)]
      refine ⟨fun k e hk => absurd hk (Nat.not_lt_zero _), fun k e _ he => ?_⟩
      cases k with
      | zero => simp at he; subst he; exact hx
      | succ k =>
        have := h.lt (show 0 < k + 1 by omega) (show (x :: l)[0]? = some x from rfl) he
        rcases h4 : nlt e.1 s with _ | _
        · rfl
        · rw [nlt_trans this h4] at hx; cases hx
    · rw [if_pos rfl]
      constructor
      · intro k e hk he
        cases k with
        | zero => simp at he; subst he; exact hx
        | succ k => exact ih.1 k e (by simpa using hk) (by simpa using he)
      · intro k e hk he
        cases k with
        | zero => simp at hk
        | succ k => exact ih.2 k e (by simpa using hk) (by simpa using he)
theorem has_at {l : List Ent} (h : Srt l) {s : List UInt8} (hh : hasM l s = true) : ∃ x, l[posM l s]? = some (s, x) :=
  (has_pos h s (posM_le l s) (pos_facts h s).1 (pos_facts h s).2).1 hh
theorem ino_at {l : List Ent} (h : Srt l) {s : List UInt8} {x : Int} (hx : l[posM l s]? = some (s, x)) : inoM l s = x := by
  unfold inoM
  have : l.find? (fun e => e.1 == s) = some (s, x) := by
    rw [List.find?_eq_some_iff_append]
    refine ⟨by simp, l.take (posM l s), l.drop (posM l s + 1), ?_, ?_⟩
    · obtain ⟨h1, h2⟩ := List.getElem?_eq_some_iff.1 hx
      rw [← h2, ← List.drop_eq_getElem_cons h1, List.take_append_drop]
    · intro e he
      obtain ⟨k, hk, rfl⟩ := List.mem_iff_getElem.1 he
      rw [List.length_take] at hk
      have := (pos_facts h s).1 k l[k] (by omega) (List.getElem?_eq_getElem (by omega))
      rw [List.getElem_take]
      have hne := nlt_ne this
      simpa using hne
  rw [this]
theorem drop_has {l : List Ent} (h : Srt l) {s : List UInt8} (hh : hasM l s = true) : dropM l s = l.take (posM l s) ++ l.drop (posM l s + 1) := by
  obtain ⟨x, hx⟩ := has_at h hh
  obtain ⟨h1, h2⟩ := List.getElem?_eq_some_iff.1 hx
  have hsp : l = l.take (posM l s) ++ (s, x) :: l.drop (posM l s + 1) := by rw [← h2, ← List.drop_eq_getElem_cons h1, List.take_append_drop]
  have e1 : (l.take (posM l s)).filter (fun e => !(e.1 == s)) = l.take (posM l s) := by
    rw [List.filter_eq_self]
    intro e he
    obtain ⟨k, hk, rfl⟩ := List.mem_iff_getElem.1 he
    rw [List.length_take] at hk
    have := nlt_ne ((pos_facts h s).1 k l[k] (by omega) (List.getElem?_eq_getElem (by omega)))
    rw [List.getElem_take]
    simpa using this
  have e2 : (l.drop (posM l s + 1)).filter (fun e => !(e.1 == s)) = l.drop (posM l s + 1) := by
    rw [List.filter_eq_self]
    intro e he
    obtain ⟨k, hk, rfl⟩ := List.mem_iff_getElem.1 he
    rw [List.length_drop] at hk
    have hlt := h.lt (show posM l s < posM l s + 1 + k by omega) hx (List.getElem?_eq_getElem (by omega))
    rw [List.getElem_drop]
    have := nlt_ne hlt
    simp only [] at this
    simpa using fun e => this e.symm
  unfold dropM
  have e3 := congrArg (List.filter (fun e : Ent => !(e.1 == s))) hsp
  rw [e3, List.filter_append, List.filter_cons, e1, e2]
  simp
theorem srt_drop {l : List Ent} (h : Srt l) (s : List UInt8) : Srt (dropM l s) := h.sublist List.filter_sublist
theorem dropM_len {l : List Ent} (h : Srt l) {s : List UInt8} (hh : hasM l s = true) : (dropM l s).length = l.length - 1 := by
  obtain ⟨x, hx⟩ := has_at h hh
  have h1 := (List.getElem?_eq_some_iff.1 hx).1
  rw [drop_has h hh]
  simp; omega
set_option maxHeartbeats 4000000 in
set_option maxRecDepth 100000 in
theorem put_any (base : Nat) (a : Option Addr) (n c : Nat) (l : List Ent) (x : Ent) (w : World) (h : w.ownsRow base 35 2 (.slice a n c) n (l.flatMap encE)) (hn : n ≤ 1000000) (hln : n = l.length) (hs : Srt l) (hb : base ≤ w.heap.size) :
    Calls Try.prog 87 #[.slice a n c, eV x] w (InsP w base (.slice a n c) (n + 1) (insM l x)) := by
  obtain ⟨t, y⟩ := x
  have hip := ins_pos l (t, y)
  rw [hip]
  unfold eV
  simp only []
  have HO := hide h
  have hq := fun (q : Nat) (hq : (Value.slice a n c).ownBlock = some q) => (ownG_lt h hq)
  obtain ⟨W0, hW0⟩ : ∃ W0, W0 = w.alloc (.cells #[.string (bstr t), .int .i64 y] 35) := ⟨_, rfl⟩
  have B0 := hide (show Blk W0 w.heap.size [.string (bstr t), .int .i64 y] 35 by rw [hW0]; exact Blk.new w _ _)
  have HB0 := hide (show Below w.heap.size w W0 by rw [hW0]; exact bl_alloc (bl_refl w) _)
  have HF := hide (fun (wx : World) (hb : Below w.heap.size w wx) => find_any a n c l t wx (own_RE2 (ownG_below h hb) hln).1 hn hs)
  have hpl : posM l t ≤ n := by rw [hln]; exact posM_le l t
  have HLN := hide hln
  have HQ := hide hq
  have HW0 := hide hW0
  obtain ⟨p, hp⟩ : ∃ p, p = posM l t := ⟨_, rfl⟩
  obtain ⟨hv, hhv⟩ : ∃ hv, hv = hasM l t := ⟨_, rfl⟩
  rw [← hp, ← hhv] at HF
  rw [← hp] at hpl ⊢
  clear h hln hs hip hq hW0 hp hhv
  go_enter Try.func87, Try.ntmps87
  go_wp2_with fail
  rw [← HW0.out]
  clear HW0
  refine (HF.out W0 HB0.out).mono ?_
  rintro e w1 ⟨rfl, hb1⟩
  have B1 := hide (B0.out.below hb1)
  have HB1 := hide (HB0.out.trans (hb1.mono HB0.out.size))
  clear hb1
  have d0 : w1.cell? ⟨w.heap.size, 0, none⟩ = some _ := B1.out.cell rfl
  have d1 : w1.cell? ⟨w.heap.size, 1, none⟩ = some _ := B1.out.cell rfl
  have l1 := B1.out.lt
  obtain ⟨W2, hW2⟩ : ∃ W2, W2 = w1.alloc (.cells #[.string (bstr t), .int .i64 y] 35) := ⟨_, rfl⟩
  have B2 := hide (show Blk W2 w1.heap.size [.string (bstr t), .int .i64 y] 35 by rw [hW2]; exact Blk.new w1 _ _)
  have HB2 := hide (show Below w.heap.size w W2 by rw [hW2]; exact bl_alloc HB1.out _)
  have HW2 := hide hW2
  clear hW2
  have HIN := hide (insert_any base a n c l p (t, y) w1.heap.size 35 W2 (ownG_below HO.out HB2.out) hpl hn HLN.out (by have := HB2.out.size; omega) B2.out (fun e => by have := (HQ.out _ e).2; omega))
  go_wp2_with fail
  rw [← HW2.out]
  clear HW2
  refine HIN.out.mono ?_
  rintro e w3 ⟨a', c', rfl, ho, hg, hat⟩
  have HO3 := hide ho
  have HG3 := hide hg
  have HAT := hide hat
  clear ho hg hat
  go_wp2
  go_ret
  exact ⟨_, _, rfl, HO3.out, (grown_of_below _ HB2.out).trans HG3.out, HAT.out.imp id fun ⟨q, h1, h2⟩ => ⟨q, h1, Nat.le_trans HB2.out.size h2⟩⟩
set_option maxHeartbeats 4000000 in
set_option maxRecDepth 100000 in
theorem dropf_any (base : Nat) (a : Option Addr) (n c : Nat) (l : List Ent) (s : List UInt8) (w : World) (h : w.ownsRow base 35 2 (.slice a n c) n (l.flatMap encE)) (hn : n ≤ 1000000) (hln : n = l.length) (hs : Srt l) :
    Calls Try.prog 88 #[.slice a n c, .string (bstr s)] w (DelP w base a c (dropM l s).length (dropM l s)) := by
  have HO := hide h
  have HF := hide (find_any a n c l s w (own_RE2 h hln).1 hn hs)
  have hpl : posM l s ≤ n := by rw [hln]; exact posM_le l s
  have HLN := hide hln
  have HS := hide hs
  obtain ⟨p, hp⟩ : ∃ p, p = posM l s := ⟨_, rfl⟩
  obtain ⟨hv, hhv⟩ : ∃ hv, hv = hasM l s := ⟨_, rfl⟩
  rw [← hp, ← hhv] at HF
  rw [← hp] at hpl
  have HP := hide hp
  have HH := hide hhv
  obtain ⟨dl, hdl⟩ : ∃ dl, dl = dropM l s := ⟨_, rfl⟩
  rw [← hdl]
  have HD := hide hdl
  clear h hln hs hp hhv hdl
  go_enter Try.func88, Try.ntmps88
  go_wp2_with fail
  refine HF.out.mono ?_
  rintro e w1 ⟨rfl, hb1⟩
  have HB1 := hide hb1
  clear hb1
  cases hv with
  | false =>
    have hd : dl = l := by rw [HD.out]; exact drop_not HH.out.symm
    go_wp2
    go_ret
    refine ⟨?_, ?_, grown_of_below _ HB1.out⟩
    · rw [hd, ← HLN.out]; rfl
    · rw [hd, ← HLN.out]; exact ownG_below HO.out HB1.out
  | true =>
    obtain ⟨x, hx⟩ := has_at HS.out HH.out.symm
    rw [← HP.out] at hx
    have hpn : p < n := by rw [HLN.out]; exact (List.getElem?_eq_some_iff.1 hx).1
    have hd : dl = l.take p ++ l.drop (p + 1) := by rw [HD.out, drop_has HS.out HH.out.symm, ← HP.out]
    have hdn : dl.length = n - 1 := by rw [HD.out, dropM_len HS.out HH.out.symm, ← HLN.out]
    have HDE := hide (delete_any base a n c l p w1 (ownG_below HO.out HB1.out) hpn hn HLN.out)
    have HDD := hide hd
    have HDN := hide hdn
    clear hx hd hdn
    go_wp2_with fail
    refine HDE.out.mono ?_
    rintro e w2 ⟨rfl, ho, hg⟩
    have HO2 := hide ho
    have HG2 := hide hg
    clear ho hg
    go_wp2
    go_ret
    refine ⟨?_, ?_, (grown_of_below _ HB1.out).trans (by have := HG2.out; cases a <;> exact this)⟩
    · rw [HDN.out]; rfl
    · rw [HDN.out, HDD.out]; exact HO2.out
end Go.Proofs.Ytjpmfiicbokdcaa
