/- Drawn regions whose calls turn memory: a walk in text order, all slots constants, the world told by which operations have come up. Nothing of the program is named. Drawn regions whose operations turn memory: a walk in text order; slots are constants or properties that the other operations' steps keep; the world is told by which operations have come up. Nothing of the program is named. Drawn regions whose operations turn memory: a walk in text order; slots are constants or properties that the other operations' steps keep; the world is told by which operations have come up. Nothing of the program is named. Drawn regions: as RegF, and what is told of the world may speak of the temporaries' values too. Nothing of the program is named. -/
import Derived.Test.YtbpkclopcoaikaaGreatDoorMa
namespace Go.Proofs.YtbpkclopcoaikaaGreatDoor
open Go.RowKit
set_option linter.unusedVariables false
def IsC (s : Slot) : Prop := ∃ v, s = .c v
theorem IsC.holds {s : Slot} (h : IsC s) {u : Value} {w w' : World} (g : s.holds u w) : s.holds u w' := by obtain ⟨v, rfl⟩ := h; exact g
theorem isC_c (v : Value) : IsC (.c v) := ⟨v, rfl⟩
def upL (L : Nat → Bool) (i : Nat) : Nat → Bool := fun t => if t = i then true else L t
def upG (P : Program) (K : World → Prop) (s : Slot) : Result Next → Prop
  | .ok (.value u) w' => K w' ∧ s.holds u w'
  | .ok .skip w' => K w' ∧ s.holds undef w'
  | .ok (.enter f args) w' => Calls P f args w' fun e w'' => ∃ v, e = .returned v ∧ K w'' ∧ s.holds v w''
  | _ => False
def opG (P : Program) (m : List Nat) (G : (Nat → Bool) → World → Prop) (F : List Slot) (i : Nat) (o : Oper) (s : Slot) : Prop :=
  ∀ (L : Nat → Bool) (ev : Operand → Value) (w : World), G L w → L i = false → (∀ j, j < i → (m.getD i 0).testBit j = true → L j = true) → (∀ x ∈ o.op.operands.toList, (opndS F x).holds (ev x) w) → upG P (G (upL L i)) s ((execOp ev o).run P w)
def stG (P : Program) (ops : Array Oper) (m : List Nat) (G : (Nat → Bool) → World → Prop) (F : List Slot) (i : Nat) (o : Oper) (s : Slot) : Prop :=
  match o.guard with
  | none => opG P m G F i o s
  | some (j, want) => ∃ b, guardS ops F j b ∧ (if b = want then opG P m G F i o s else s = .c undef ∧ ∀ (L : Nat → Bool) (w : World), G L w → L i = false → (∀ j, j < i → (m.getD i 0).testBit j = true → L j = true) → G (upL L i) w)
def wpG (P : Program) (ops : Array Oper) (m : List Nat) (G : (Nat → Bool) → World → Prop) (Q : List Slot → Prop) : Nat → List Oper → List Slot → Prop
  | _, [], F => Q F
  | i, o :: os, F => ∃ v : Value, stG P ops m G F i o (.c v) ∧ wpG P ops m G Q (i + 1) os (setS F o.dst (.c v))
theorem wpG_nil {P : Program} {ops : Array Oper} {m : List Nat} {G : (Nat → Bool) → World → Prop} {Q : List Slot → Prop} {i : Nat} {F : List Slot} (h : Q F) : wpG P ops m G Q i [] F := h
section
variable {P : Program} {ops : Array Oper} {m : List Nat} {G : (Nat → Bool) → World → Prop} {Q : List Slot → Prop} {i : Nat} {o : Oper} {rest : List Oper} {F : List Slot}
theorem wpG_c {v : Value} (hg : o.guard = none) (h : opG P m G F i o (.c v)) (hr : wpG P ops m G Q (i + 1) rest (setS F o.dst (.c v))) : wpG P ops m G Q i (o :: rest) F :=
  ⟨v, by unfold stG; rw [hg]; exact h, hr⟩
theorem wpG_gc {v : Value} {j : Nat} {b : Bool} (hg : o.guard = some (j, b)) (hb : guardS ops F j b) (h : opG P m G F i o (.c v)) (hr : wpG P ops m G Q (i + 1) rest (setS F o.dst (.c v))) : wpG P ops m G Q i (o :: rest) F :=
  ⟨v, by unfold stG; rw [hg]; exact ⟨b, hb, by rw [if_pos rfl]; exact h⟩, hr⟩
theorem wpG_skip {j : Nat} {b : Bool} (hg : o.guard = some (j, !b)) (hb : guardS ops F j b) (hk : ∀ (L : Nat → Bool) (w : World), G L w → L i = false → (∀ j, j < i → (m.getD i 0).testBit j = true → L j = true) → G (upL L i) w)
    (hr : wpG P ops m G Q (i + 1) rest (setS F o.dst (.c undef))) : wpG P ops m G Q i (o :: rest) F :=
  ⟨undef, by unfold stG; rw [hg]; exact ⟨b, hb, by rw [if_neg (by cases b <;> simp)]; exact ⟨rfl, hk⟩⟩, hr⟩
end
theorem wp_of_upG {P : Program} {o : Oper} {a : Act} {w : World} {K : Act → World → Prop} {K1 : World → Prop} {Q' : Exit → Act → World → Prop} {s : Slot} (h : upG P K1 s ((execOp a.eval o).run P w))
    (hK : ∀ v w', K1 w' → s.holds v w' → K (a.put o.dst v) w') : o.wp P a w K Q' := by
  unfold Oper.wp
  generalize (execOp a.eval o).run P w = r at *
  cases r with
  | ok n w' =>
    cases n <;> simp only [upG] at h <;> simp only [Oper.upon]
    case value u => exact hK _ _ h.1 h.2
    case skip => exact hK _ _ h.1 h.2
    case enter f args => exact h.mono fun e w'' ⟨v, he, h1, h2⟩ => by subst he; exact hK _ _ h1 h2
  | halt x w' => simp only [upG] at h
theorem wpG_fun {P : Program} {ops : Array Oper} {m : List Nat} {G : (Nat → Bool) → World → Prop} {Q : List Slot → Prop} : ∀ (l : List Oper) (n : Nat) (F : List Slot), wpG P ops m G Q n l F →
    ∃ S : Nat → Slot, (∀ i, IsC (S i)) ∧ (∀ i o, l[i]? = some o → stG P ops m G (frS (l.take i) S F) (n + i) o (S i)) ∧ Q (frS l S F)
  | [], n, F, h => ⟨fun _ => .c undef, fun _ => isC_c _, fun i o h => by simp at h, h⟩
  | o :: l, n, F, h => by
    obtain ⟨v, h1, h2⟩ := h
    obtain ⟨S, g1, g2, g3⟩ := wpG_fun l _ _ h2
    refine ⟨fun i => match i with | 0 => .c v | i + 1 => S i, fun i => by cases i <;> simp only [isC_c, g1], fun i o' ho => ?_, g3⟩
    cases i with
    | zero => obtain rfl : o = o' := by simpa using ho
              exact h1
    | succ i => have := g2 i o' (by simpa using ho)
                rw [show n + (i + 1) = n + 1 + i by omega]
                exact this
theorem cur_isC : ∀ (os : List Oper) (S : Nat → Slot) (L : Nat → Bool) (f : Tmp → Slot) (t : Tmp), (∀ i, IsC (S i)) → (∀ t, IsC (f t)) → IsC (cur os S L f t)
  | [], _, _, _, _, _, h => h _
  | o :: os, S, L, f, t, hs, h => by
    unfold cur
    refine cur_isC os _ _ _ t (fun i => hs _) fun t => ?_
    split
    · exact hs 0
    · exact h t
section
variable {P : Program} {ops : Array Oper}
structure InvG (ops : Array Oper) (k : Nat) (G : (Nat → Bool) → World → Prop) (F0 : List Slot) (S : Nat → Slot) (d : List Deferred) (L : Array Bool) (a : Act) (w : World) : Prop where
  size : L.size = ops.size
  closed : Closed ops L
  tl : ∀ i, k ≤ i → i < ops.size → L.getD i true = false
  cls : G (fun i => L.getD i false) w
  asize : a.tmps.size = F0.length
  defers : a.defers = d
  slot : ∀ t, t < F0.length → (cur ops.toList S (fun i => L.getD i false) (fun t => F0.getD t (.c undef)) t).holds (a.tmps.getD t undef) w
theorem G_all {G : (Nat → Bool) → World → Prop} {w : World} {L : Array Bool} {k : Nat} (hs : L.size = ops.size) (hall : ∀ i, i < k → L.getD i false = true) (htl : ∀ i, k ≤ i → i < ops.size → L.getD i true = false) (h : G (fun i => L.getD i false) w) : G (fun i => decide (i < k)) w := by
  have : (fun i => L.getD i false) = fun i => decide (i < k) := by
    funext i
    by_cases hik : i < k
    · rw [hall i hik]; simp [hik]
    · rw [show decide (i < k) = false by simp; omega]
      rcases Nat.lt_or_ge i ops.size with h2 | h2
      · exact getD_tf (htl i (by omega) h2)
      · simp [Array.getElem?_eq_none (by omega : L.size ≤ i)]
  rwa [this] at h
theorem getD_upL {L : Array Bool} {i : Nat} (hi : i < L.size) : (fun t => (L.setIfInBounds i true).getD t false) = upL (fun t => L.getD t false) i := by
  funext t
  unfold upL
  by_cases h : t = i
  · subst h; rw [if_pos rfl]; exact getD_set_eq hi _
  · rw [if_neg h]; exact getD_set_ne false (fun e => h e.symm)

theorem region_mainG {m : List Nat} {k : Nat} {G : (Nat → Bool) → World → Prop} {F0 : List Slot} {S : Nat → Slot} {d : List Deferred} {Q' : Exit → Act → World → Prop}
    (hm : maskOkB ops m = true) (ho : ordB ops m k = true) (hk : k ≤ ops.size) (hF : ∀ t, IsC (F0.getD t (.c undef))) (hS : ∀ i, IsC (S i))
    (hst : ∀ i o, (ops.toList.take k)[i]? = some o → stG P ops m G (frS ((ops.toList.take k).take i) S F0) i o (S i))
    (hQ : ∀ w, G (fun i => decide (i < k)) w → closeS w (frS (ops.toList.take k) S F0) fun l => wpList P ops Q' (ops.toList.drop k) ⟨l.toArray, d⟩ w) :
    ∀ (n : Nat) (L : Array Bool) (a : Act) (w : World), InvG ops k G F0 S d L a w → left L = n → wpAny P .any ops Q' n L a w := by
  intro n
  induction n with
  | zero =>
    intro L a w inv hn
    have hall : ∀ i, i < ops.size → L.getD i false = true := fun i hi => left_zero hn i (by rw [inv.size]; exact hi)
    by_cases hkk : k < ops.size
    · have h1 := inv.tl k (Nat.le_refl _) hkk
      have h2 := hall k hkk
      rw [getD_tf h1] at h2; cases h2
    · obtain rfl : k = ops.size := by omega
      have hcls := G_all inv.size (fun i hi => hall i hi) (fun i h1 h2 => by omega) inv.cls
      refine tail_forced (m := m) hm ho 0 ops.size L a w (by simp) (Nat.le_refl _) inv.size inv.closed hall (fun i h1 h2 => by omega) ?_
      have := closeS_apply w _ _ a.tmps.toList (hQ w hcls) (by rw [frS_length]; simp [inv.asize]) fun t s u h1 h2 => ?_
      · have e : (⟨a.tmps.toList.toArray, d⟩ : Act) = a := by cases a; simp [← inv.defers]
        rwa [e] at this
      · have ht : t < F0.length := by
          have := (List.getElem?_eq_some_iff.1 h1).1
          rwa [frS_length] at this
        have h3 := inv.slot t ht
        rw [cur_congr ops.toList S _ (fun i => decide (i < ops.size)) _ _ t rfl (fun i o hoi _ => by
          have hi : i < ops.size := by have := (List.getElem?_eq_some_iff.1 hoi).1; simpa using this
          rw [hall i hi]; simp [hi]), cur_take, ← frS_getD _ _ F0 _ t ht rfl] at h3
        have e1 : (frS (List.take ops.size ops.toList) S F0).getD t (.c undef) = s := by simp [List.getD, h1]
        have e2 : a.tmps.getD t undef = u := by
          have h4 : a.tmps[t]? = some u := by simpa using h2
          simp [h4]
        rwa [e1, e2] at h3
  | succ n ih =>
    intro L a w inv hn
    by_cases hall : ∀ i, i < k → L.getD i false = true
    · -- the tail
      have hcls := G_all inv.size hall inv.tl inv.cls
      have hfin : wpList P ops Q' (ops.toList.drop k) a w := by
        have := closeS_apply w _ _ a.tmps.toList (hQ w hcls) (by rw [frS_length]; simp [inv.asize]) fun t s u h1 h2 => ?_
        · have e : (⟨a.tmps.toList.toArray, d⟩ : Act) = a := by cases a; simp [← inv.defers]
          rwa [e] at this
        · have ht : t < F0.length := by
            have := (List.getElem?_eq_some_iff.1 h1).1
            rwa [frS_length] at this
          have h3 := inv.slot t ht
          rw [cur_congr ops.toList S _ (fun i => decide (i < k)) _ _ t rfl (fun i o hoi _ => by
            have hi : i < ops.size := by have := (List.getElem?_eq_some_iff.1 hoi).1; simpa using this
            by_cases hik : i < k
            · rw [hall i hik]; simp [hik]
            · rw [getD_tf (inv.tl i (by omega) hi)]; simp [hik]), cur_take, ← frS_getD _ _ F0 _ t ht rfl] at h3
          have e1 : (frS (List.take k ops.toList) S F0).getD t (.c undef) = s := by simp [List.getD, h1]
          have e2 : a.tmps.getD t undef = u := by
            have h4 : a.tmps[t]? = some u := by simpa using h2
            simp [h4]
          rwa [e1, e2] at h3
      have hcount : n + 1 + k = ops.size := by
        rw [← hn, ← inv.size]
        have hlen : L.toList.length = L.size := by simp
        have h5 : (L.toList.take k).count false = 0 := by
          rw [List.count_eq_zero]
          intro hmem
          obtain ⟨i, hi, he⟩ := List.getElem_of_mem hmem
          have hik : i < k := by simp at hi; omega
          have hil : i < L.size := by simp at hi; omega
          have := hall i hik
          simp [hil] at this
          simp [this] at he
        have h6 : (L.toList.drop k).count false = (L.toList.drop k).length := by
          rw [List.count_eq_length]
          intro b hb
          obtain ⟨i, hi, he⟩ := List.getElem_of_mem hb
          have hil : k + i < L.size := by simp at hi; omega
          have := inv.tl (k + i) (by omega) (by rw [← inv.size]; exact hil)
          simp [hil] at this
          rw [← he]; simp [this]
        have h7 : left L = (L.toList.take k).count false + (L.toList.drop k).count false := by
          unfold left
          rw [← List.count_append, List.take_append_drop]
        rw [h7, h5, h6, List.length_drop, hlen]
        have := inv.size
        omega
      exact tail_forced (m := m) hm ho (n + 1) k L a w hcount (Nat.le_refl _) inv.size inv.closed hall inv.tl hfin
    · obtain ⟨i0, hi0, hu0⟩ : ∃ i, i < k ∧ L.getD i false = false := by
        rw [Classical.not_forall] at hall
        obtain ⟨i, hi⟩ := hall
        rw [Classical.not_imp] at hi
        exact ⟨i, hi.1, by simpa using hi.2⟩
      refine ⟨fun h0 => ?_, fun i hi => ?_⟩
      · -- something is ready
        exfalso
        have : ∀ n i, i < n → i < ops.size → L.getD i false = false → False := by
          intro n
          induction n with
          | zero => intro i h; omega
          | succ n ihn =>
            intro i hin his hu
            by_cases hbad : ∃ i', i' < i ∧ L.getD i' false = false
            · obtain ⟨i', h1, h2⟩ := hbad
              exact ihn i' (by omega) (by omega) h2
            · have hoi : ops[i]? = some ops[i] := by simp [his]
              have hr : i ∈ Region.ready .any ops L := by
                refine mem_ready.2 ⟨getD_ft (by rw [inv.size]; exact his) hu, _, hoi, fun e he hb => ?_⟩
                have g := List.all_eq_true.1 hm i (List.mem_range.2 his)
                rw [hoi] at g
                simp only [Bool.and_eq_true] at g
                have g4 := Array.all_eq_true'.1 g.1 e he
                rw [hb] at g4
                have g5 : e.on < i := by simpa using g4
                cases hle : L.getD e.on false with
                | true => rfl
                | false => exact absurd ⟨e.on, g5, hle⟩ hbad
              rw [h0] at hr; exact List.not_mem_nil hr
        exact this (i0 + 1) i0 (by omega) (by omega) hu0
      · obtain ⟨hu, o, hoi, hallE⟩ := mem_ready.1 hi
        have hlt : i < ops.size := (Array.getElem?_eq_some_iff.1 hoi).1
        have hik : i < k := by
          rcases Nat.lt_or_ge i k with h | h
          · exact h
          · exfalso
            have g := List.all_eq_true.1 ho i (List.mem_range.2 hlt)
            have g2 := List.all_eq_true.1 g i0 (List.mem_range.2 (by omega))
            rw [show decide (i < k) = false by simp; omega] at g2
            simp only [Bool.false_and, Bool.or_false] at g2
            have := ahead hm inv.closed inv.size hi (by omega) g2
            rw [hu0] at this; cases this
        have hil : i < L.size := by rw [inv.size]; exact hlt
        have holist : ops.toList[i]? = some o := by simpa using hoi
        -- what operation i looks at
        have look : ∀ t, t ∈ o.looksAt ops → ((frS ((ops.toList.take k).take i) S F0).getD t (.c undef)).holds (a.tmps.getD t undef) w := by
          intro t ht
          rw [List.take_take, Nat.min_eq_left (by omega)]
          by_cases htl : t < F0.length
          · have h3 := inv.slot t htl
            rw [cur_congr ops.toList S _ (fun i' => decide (i' < i)) _ _ t rfl (fun i' o' ho' hd' => by
              have hi's : i' < ops.size := by have := (List.getElem?_eq_some_iff.1 ho').1; simpa using this
              have hoa : ops[i']? = some o' := by simpa using ho'
              rcases Nat.lt_trichotomy i' i with h4 | h4 | h4
              · have g := List.all_eq_true.1 ho i (List.mem_range.2 hlt)
                have g2 := List.all_eq_true.1 g i' (List.mem_range.2 h4)
                rw [hoi, hoa] at g2
                simp only [Bool.or_eq_true, Bool.and_eq_true] at g2
                rcases g2 with g2 | g2
                · rw [ahead hm inv.closed inv.size hi h4 g2]; simp [h4]
                · exact absurd ht ((Oper.apart_spec g2.2).1 t hd')
              · subst h4; rw [getD_tf hu]; simp
              · rw [show decide (i' < i) = false by simp; omega]
                cases hl : L.getD i' false with
                | false => rfl
                | true =>
                  exfalso
                  have g := List.all_eq_true.1 ho i' (List.mem_range.2 hi's)
                  have g2 := List.all_eq_true.1 g i (List.mem_range.2 h4)
                  rw [hoi, hoa] at g2
                  simp only [Bool.or_eq_true, Bool.and_eq_true] at g2
                  rcases g2 with g2 | g2
                  · have := closed_mask hm inv.closed i' i' i (Nat.le_refl _) hi's hlt g2 hl
                    rw [getD_tf hu] at this; cases this
                  · exact absurd ht ((Oper.apart_spec g2.2).2.2 t hd')), cur_take, ← frS_getD _ _ F0 _ t htl rfl] at h3
            exact h3
          · have e1 : (frS (List.take i ops.toList) S F0).getD t (.c undef) = .c undef := by
              rw [List.getD, List.getElem?_eq_none (Nat.le_trans (Nat.le_of_eq (frS_length _ _ _)) (Nat.le_of_not_lt htl))]; rfl
            have e2 : a.tmps.getD t undef = undef := by
              have h9 : a.tmps.size ≤ t := by rw [inv.asize]; exact Nat.le_of_not_lt htl
              simp [Array.getElem?_eq_none h9]
            rw [e1, e2]; rfl
        have opnds : ∀ x ∈ o.op.operands.toList, (opndS (frS ((ops.toList.take k).take i) S F0) x).holds (a.eval x) w := by
          intro x hx
          cases x with
          | tmp t => exact look t (List.mem_append_left _ (List.mem_filterMap.2 ⟨.tmp t, hx, rfl⟩))
          | const v => rfl
          | global g => rfl
          | func f => rfl
        -- behind it
        have next : ∀ v w', G (upL (fun t => L.getD t false) i) w' → (S i).holds v w' → wpAny P .any ops Q' n (L.setIfInBounds i true) (a.put o.dst v) w' := by
          intro v w' hb hv
          have hb' : G (fun t => (L.setIfInBounds i true).getD t false) w' := by rw [getD_upL hil]; exact hb
          refine ih _ _ _ ⟨by simpa using inv.size, closed_set inv.closed hi, fun i' h1 h2 => by rw [getD_set_ne true (by omega)]; exact inv.tl i' h1 h2, hb', by rw [put_size]; exact inv.asize, by rw [put_defers]; exact inv.defers, fun t ht => ?_⟩ (by have := left_set hil hu; omega)
          rw [put_getD _ _ _ _ (by rw [inv.asize]; exact ht)]
          by_cases hd : o.dst = some t
          · rw [if_pos hd, cur_last ops.toList S _ _ t i o holist hd (getD_set_eq hil _) (fun j o' hj hoj hd' => by
              rw [getD_set_ne false (by omega)]
              have hjs : j < ops.size := by have := (List.getElem?_eq_some_iff.1 hoj).1; simpa using this
              cases hl : L.getD j false with
              | false => rfl
              | true =>
                exfalso
                have hoa : ops[j]? = some o' := by simpa using hoj
                have g := List.all_eq_true.1 ho j (List.mem_range.2 hjs)
                have g2 := List.all_eq_true.1 g i (List.mem_range.2 hj)
                rw [hoi, hoa] at g2
                simp only [Bool.or_eq_true, Bool.and_eq_true] at g2
                rcases g2 with g2 | g2
                · have := closed_mask hm inv.closed j j i (Nat.le_refl _) hjs hlt g2 hl
                  rw [getD_tf hu] at this; cases this
                · exact (Oper.apart_spec g2.2).2.1 t hd hd')]
            exact hv
          · rw [if_neg hd, cur_congr ops.toList S _ (fun i => L.getD i false) _ _ t rfl (fun i' o' ho' hd' => by
              by_cases e : i = i'
              · subst e
                obtain rfl : o' = o := Option.some.inj (ho'.symm.trans holist)
                exact absurd hd' hd
              · rw [getD_set_ne false e])]
            exact (cur_isC ops.toList S _ _ t hS hF).holds (inv.slot t ht)
        have hstep := hst i o (by rw [List.getElem?_take, if_pos hik]; exact holist)
        unfold wpOp
        rw [hoi]
        simp only []
        unfold stG at hstep
        have hL : (fun t => L.getD t false) i = false := getD_tf hu
        have hM : ∀ j, j < i → (m.getD i 0).testBit j = true → (fun t => L.getD t false) j = true := fun j hj hb => ahead hm inv.closed inv.size hi hj hb
        cases hg : o.guard with
        | none =>
          rw [hg] at hstep
          rw [if_pos (by simp [Region.wanted, hg])]
          exact .inl (wp_of_upG (hstep _ a.eval w inv.cls hL hM opnds) next)
        | some jw =>
          obtain ⟨j, want⟩ := jw
          rw [hg] at hstep
          obtain ⟨b, ⟨t, hdt, hFt⟩, hif⟩ := hstep
          have ht : t ∈ o.looksAt ops := List.mem_append_right _ (by simp [hg, hdt])
          have h3 := look t ht
          have h4 : (frS ((ops.toList.take k).take i) S F0).getD t (.c undef) = .c (.bool b) := by simp only [List.getD, hFt]; rfl
          rw [h4] at h3
          have h5 : a.tmps.getD t undef = .bool b := h3
          have htl : t < a.tmps.size := by
            have := (List.getElem?_eq_some_iff.1 hFt).1
            rw [frS_length] at this
            rw [inv.asize]; exact this
          have h6 : a.tmps[t]? = some (.bool b) := by simpa [htl] using h5
          have hy : yielded ops a.tmps j = some b := by simp [yielded, hdt, h6]
          by_cases hbw : b = want
          · rw [if_pos hbw] at hif
            rw [if_pos (by simp [Region.wanted, hg, hy, hbw])]
            exact .inl (wp_of_upG (hif _ a.eval w inv.cls hL hM opnds) next)
          · rw [if_neg hbw] at hif
            rw [if_neg (by simp [Region.wanted, hg, hy, hbw])]
            exact next undef w (hif.2 _ w inv.cls hL hM) (by rw [hif.1]; rfl)


theorem wp_region_G {id : Nat} (k : Nat) {l : List Oper} {vs : List Value} {d : List Deferred} {w : World} {Q' : Exit → Act → World → Prop} (G : (Nat → Bool) → World → Prop) (hm : P.follows .mixedOrders = true) (hB : regB l.toArray k = true) (hG : G (fun _ => false) w.drew)
    (h : ∀ Q : List Slot → Prop, (∀ F, (∀ w', G (fun i => decide (i < k)) w' → closeS w' F fun l' => wpList P l.toArray Q' (l.drop k) ⟨l'.toArray, d⟩ w') → Q F) → wpG P l.toArray (masks l) G Q 0 (l.take k) (vs.map Slot.c)) :
    (Code.region id l.toArray true).wp P Q' ⟨vs.toArray, d⟩ w := by
  have h := h _ fun _ h => h
  simp only [regB, Bool.and_eq_true, decide_eq_true_eq] at hB
  obtain ⟨⟨h1, h2⟩, h4⟩ := hB
  obtain ⟨S, hS, hst, hQ⟩ := wpG_fun _ _ _ h
  refine wp_region_any hm ?_
  have hF : ∀ t, IsC ((slotsOfList vs).getD t (.c undef)) := fun t => by
    unfold slotsOfList
    rcases Nat.lt_or_ge t vs.length with ht | ht
    · simp [List.getD, ht]; exact isC_c _
    · simp [List.getD, List.getElem?_eq_none ht]; exact isC_c _
  have hl0 : ∀ i, (Array.replicate l.toArray.size false).getD i false = false := fun i => by
    rcases Nat.lt_or_ge i l.length with hi | hi <;> simp [hi]
  have hl1 : (fun i => (Array.replicate l.toArray.size false).getD i false) = fun _ => false := funext hl0
  refine region_mainG (m := masks l) (d := d) (S := S) (G := G) (F0 := slotsOfList vs) (k := k) h1 h2 h4 hF hS (fun i o ho => by have := hst i o (by simpa using ho); rw [Nat.zero_add] at this; simpa [slotsOfList] using this) (by simpa [slotsOfList] using hQ) l.toArray.size _ _ _
    ⟨by simp, fun j oj hj hl => absurd hl (by rw [hl0]; simp), fun i _ hi => getD_ft (by simpa using hi) (hl0 i), by rw [hl1]; exact hG, by simp [slotsOfList], rfl, fun t ht => ?_⟩ (by simp [left])
  rw [cur_congr _ S _ (fun _ => false) _ _ t rfl (fun i o _ _ => hl0 i), cur_none]
  have ht' : t < vs.length := by simpa [slotsOfList] using ht
  simp [slotsOfList, List.getD, ht', Slot.holds]
end
end Go.Proofs.YtbpkclopcoaikaaGreatDoor
namespace Go.Proofs.YtbpkclopcoaikaaGreatDoor
open Go.RowKit
set_option linter.unusedVariables false
/-- A slot that the steps of all other operations keep. -/
def StabE (E : Nat → World → World → Prop) (i : Nat) (s : Slot) : Prop := ∀ j, j ≠ i → ∀ u w w', E j w w' → s.holds u w → s.holds u w'
theorem stabE_c (E : Nat → World → World → Prop) (i : Nat) (v : Value) : StabE E i (.c v) := fun _ _ _ _ _ _ h => h
def upE (P : Program) (K : World → Prop) (T : World → Prop) (s : Slot) : Result Next → Prop
  | .ok (.value u) w' => K w' ∧ T w' ∧ s.holds u w'
  | .ok .skip w' => K w' ∧ T w' ∧ s.holds undef w'
  | .ok (.enter f args) w' => Calls P f args w' fun e w'' => ∃ v, e = .returned v ∧ K w'' ∧ T w'' ∧ s.holds v w''
  | _ => False
def opE (P : Program) (m : List Nat) (G : (Nat → Bool) → World → Prop) (E : Nat → World → World → Prop) (F : List Slot) (i : Nat) (o : Oper) (s : Slot) : Prop :=
  ∀ (L : Nat → Bool) (ev : Operand → Value) (w : World), G L w → L i = false → (∀ j, j < i → (m.getD i 0).testBit j = true → L j = true) → (∀ x ∈ o.op.operands.toList, (opndS F x).holds (ev x) w) → upE P (G (upL L i)) (E i w) s ((execOp ev o).run P w)
def stE (P : Program) (ops : Array Oper) (m : List Nat) (G : (Nat → Bool) → World → Prop) (E : Nat → World → World → Prop) (F : List Slot) (i : Nat) (o : Oper) (s : Slot) : Prop :=
  match o.guard with
  | none => opE P m G E F i o s
  | some (j, want) => ∃ b, guardS ops F j b ∧ (if b = want then opE P m G E F i o s else s = .c undef ∧ ∀ (L : Nat → Bool) (w : World), G L w → L i = false → (∀ j, j < i → (m.getD i 0).testBit j = true → L j = true) → G (upL L i) w)
def wpE (P : Program) (ops : Array Oper) (m : List Nat) (G : (Nat → Bool) → World → Prop) (E : Nat → World → World → Prop) (Q : List Slot → Prop) : Nat → List Oper → List Slot → Prop
  | _, [], F => Q F
  | i, o :: os, F => ∃ s : Slot, StabE E i s ∧ stE P ops m G E F i o s ∧ wpE P ops m G E Q (i + 1) os (setS F o.dst s)
section
variable {P : Program} {ops : Array Oper} {m : List Nat} {G : (Nat → Bool) → World → Prop} {E : Nat → World → World → Prop} {Q : List Slot → Prop} {i : Nat} {o : Oper} {rest : List Oper} {F : List Slot}
theorem wpE_nil (h : Q F) : wpE P ops m G E Q i [] F := h
theorem wpE_c {v : Value} (hg : o.guard = none) (h : opE P m G E F i o (.c v)) (hr : wpE P ops m G E Q (i + 1) rest (setS F o.dst (.c v))) : wpE P ops m G E Q i (o :: rest) F :=
  ⟨.c v, stabE_c E i v, by unfold stE; rw [hg]; exact h, hr⟩
theorem wpE_p {R : Value → World → Prop} (hg : o.guard = none) (hs : StabE E i (.p R)) (h : opE P m G E F i o (.p R)) (hr : wpE P ops m G E Q (i + 1) rest (setS F o.dst (.p R))) : wpE P ops m G E Q i (o :: rest) F :=
  ⟨.p R, hs, by unfold stE; rw [hg]; exact h, hr⟩
theorem wpE_gc {v : Value} {j : Nat} {b : Bool} (hg : o.guard = some (j, b)) (hb : guardS ops F j b) (h : opE P m G E F i o (.c v)) (hr : wpE P ops m G E Q (i + 1) rest (setS F o.dst (.c v))) : wpE P ops m G E Q i (o :: rest) F :=
  ⟨.c v, stabE_c E i v, by unfold stE; rw [hg]; exact ⟨b, hb, by rw [if_pos rfl]; exact h⟩, hr⟩
theorem wpE_skip {j : Nat} {b : Bool} (hg : o.guard = some (j, !b)) (hb : guardS ops F j b) (hk : ∀ (L : Nat → Bool) (w : World), G L w → L i = false → (∀ j, j < i → (m.getD i 0).testBit j = true → L j = true) → G (upL L i) w)
    (hr : wpE P ops m G E Q (i + 1) rest (setS F o.dst (.c undef))) : wpE P ops m G E Q i (o :: rest) F :=
  ⟨.c undef, stabE_c E i _, by unfold stE; rw [hg]; exact ⟨b, hb, by rw [if_neg (by cases b <;> simp)]; exact ⟨rfl, hk⟩⟩, hr⟩
end
theorem wp_of_upE {P : Program} {o : Oper} {a : Act} {w : World} {K : Act → World → Prop} {K1 T1 : World → Prop} {Q' : Exit → Act → World → Prop} {s : Slot} (h : upE P K1 T1 s ((execOp a.eval o).run P w))
    (hK : ∀ v w', K1 w' → T1 w' → s.holds v w' → K (a.put o.dst v) w') : o.wp P a w K Q' := by
  unfold Oper.wp
  generalize (execOp a.eval o).run P w = r at *
  cases r with
  | ok n w' =>
    cases n <;> simp only [upE] at h <;> simp only [Oper.upon]
    case value u => exact hK _ _ h.1 h.2.1 h.2.2
    case skip => exact hK _ _ h.1 h.2.1 h.2.2
    case enter f args => exact h.mono fun e w'' ⟨v, he, h1, h2, h3⟩ => by subst he; exact hK _ _ h1 h2 h3
  | halt x w' => simp only [upE] at h
theorem wpE_fun {P : Program} {ops : Array Oper} {m : List Nat} {G : (Nat → Bool) → World → Prop} {E : Nat → World → World → Prop} {Q : List Slot → Prop} : ∀ (l : List Oper) (n : Nat) (F : List Slot), wpE P ops m G E Q n l F →
    ∃ S : Nat → Slot, (∀ i, StabE E (n + i) (S i)) ∧ (∀ i o, l[i]? = some o → stE P ops m G E (frS (l.take i) S F) (n + i) o (S i)) ∧ Q (frS l S F)
  | [], n, F, h => ⟨fun _ => .c undef, fun _ => stabE_c E _ _, fun i o h => by simp at h, h⟩
  | o :: l, n, F, h => by
    obtain ⟨s, h0, h1, h2⟩ := h
    obtain ⟨S, g1, g2, g3⟩ := wpE_fun l _ _ h2
    refine ⟨fun i => match i with | 0 => s | i + 1 => S i, fun i => by
      cases i with
      | zero => exact h0
      | succ i => rw [show n + (i + 1) = n + 1 + i by omega]; exact g1 i, fun i o' ho => ?_, g3⟩
    cases i with
    | zero => obtain rfl : o = o' := by simpa using ho
              exact h1
    | succ i => have := g2 i o' (by simpa using ho)
                rw [show n + (i + 1) = n + 1 + i by omega]
                exact this
theorem cur_cases : ∀ (os : List Oper) (S : Nat → Slot) (L : Nat → Bool) (f : Tmp → Slot) (t : Tmp), cur os S L f t = f t ∨ ∃ j, L j = true ∧ cur os S L f t = S j
  | [], _, _, _, _ => .inl rfl
  | o :: os, S, L, f, t => by
    unfold cur
    rcases cur_cases os (fun i => S (i + 1)) (fun i => L (i + 1)) (fun t => if L 0 = true ∧ o.dst = some t then S 0 else f t) t with h | ⟨j, h1, h2⟩
    · rw [h]
      by_cases hc : L 0 = true ∧ o.dst = some t
      · exact .inr ⟨0, hc.1, if_pos hc⟩
      · exact .inl (if_neg hc)
    · exact .inr ⟨j + 1, h1, h2⟩
section
variable {P : Program} {ops : Array Oper}
structure InvE (ops : Array Oper) (k : Nat) (G : (Nat → Bool) → World → Prop) (F0 : List Slot) (S : Nat → Slot) (d : List Deferred) (L : Array Bool) (a : Act) (w : World) : Prop where
  size : L.size = ops.size
  closed : Closed ops L
  tl : ∀ i, k ≤ i → i < ops.size → L.getD i true = false
  cls : G (fun i => L.getD i false) w
  asize : a.tmps.size = F0.length
  defers : a.defers = d
  slot : ∀ t, t < F0.length → (cur ops.toList S (fun i => L.getD i false) (fun t => F0.getD t (.c undef)) t).holds (a.tmps.getD t undef) w
theorem region_mainE {m : List Nat} {k : Nat} {G : (Nat → Bool) → World → Prop} {E : Nat → World → World → Prop} {F0 : List Slot} {S : Nat → Slot} {d : List Deferred} {Q' : Exit → Act → World → Prop}
    (hm : maskOkB ops m = true) (ho : ordB ops m k = true) (hk : k ≤ ops.size) (hF : ∀ t, IsC (F0.getD t (.c undef))) (hS : ∀ i, StabE E i (S i))
    (hst : ∀ i o, (ops.toList.take k)[i]? = some o → stE P ops m G E (frS ((ops.toList.take k).take i) S F0) i o (S i))
    (hQ : ∀ w, G (fun i => decide (i < k)) w → closeS w (frS (ops.toList.take k) S F0) fun l => wpList P ops Q' (ops.toList.drop k) ⟨l.toArray, d⟩ w) :
    ∀ (n : Nat) (L : Array Bool) (a : Act) (w : World), InvE ops k G F0 S d L a w → left L = n → wpAny P .any ops Q' n L a w := by
  intro n
  induction n with
  | zero =>
    intro L a w inv hn
    have hall : ∀ i, i < ops.size → L.getD i false = true := fun i hi => left_zero hn i (by rw [inv.size]; exact hi)
    by_cases hkk : k < ops.size
    · have h1 := inv.tl k (Nat.le_refl _) hkk
      have h2 := hall k hkk
      rw [getD_tf h1] at h2; cases h2
    · obtain rfl : k = ops.size := by omega
      have hcls := G_all inv.size (fun i hi => hall i hi) (fun i h1 h2 => by omega) inv.cls
      refine tail_forced (m := m) hm ho 0 ops.size L a w (by simp) (Nat.le_refl _) inv.size inv.closed hall (fun i h1 h2 => by omega) ?_
      have := closeS_apply w _ _ a.tmps.toList (hQ w hcls) (by rw [frS_length]; simp [inv.asize]) fun t s u h1 h2 => ?_
      · have e : (⟨a.tmps.toList.toArray, d⟩ : Act) = a := by cases a; simp [← inv.defers]
        rwa [e] at this
      · have ht : t < F0.length := by
          have := (List.getElem?_eq_some_iff.1 h1).1
          rwa [frS_length] at this
        have h3 := inv.slot t ht
        rw [cur_congr ops.toList S _ (fun i => decide (i < ops.size)) _ _ t rfl (fun i o hoi _ => by
          have hi : i < ops.size := by have := (List.getElem?_eq_some_iff.1 hoi).1; simpa using this
          rw [hall i hi]; simp [hi]), cur_take, ← frS_getD _ _ F0 _ t ht rfl] at h3
        have e1 : (frS (List.take ops.size ops.toList) S F0).getD t (.c undef) = s := by simp [List.getD, h1]
        have e2 : a.tmps.getD t undef = u := by
          have h4 : a.tmps[t]? = some u := by simpa using h2
          simp [h4]
        rwa [e1, e2] at h3
  | succ n ih =>
    intro L a w inv hn
    by_cases hall : ∀ i, i < k → L.getD i false = true
    · -- the tail
      have hcls := G_all inv.size hall inv.tl inv.cls
      have hfin : wpList P ops Q' (ops.toList.drop k) a w := by
        have := closeS_apply w _ _ a.tmps.toList (hQ w hcls) (by rw [frS_length]; simp [inv.asize]) fun t s u h1 h2 => ?_
        · have e : (⟨a.tmps.toList.toArray, d⟩ : Act) = a := by cases a; simp [← inv.defers]
          rwa [e] at this
        · have ht : t < F0.length := by
            have := (List.getElem?_eq_some_iff.1 h1).1
            rwa [frS_length] at this
          have h3 := inv.slot t ht
          rw [cur_congr ops.toList S _ (fun i => decide (i < k)) _ _ t rfl (fun i o hoi _ => by
            have hi : i < ops.size := by have := (List.getElem?_eq_some_iff.1 hoi).1; simpa using this
            by_cases hik : i < k
            · rw [hall i hik]; simp [hik]
            · rw [getD_tf (inv.tl i (by omega) hi)]; simp [hik]), cur_take, ← frS_getD _ _ F0 _ t ht rfl] at h3
          have e1 : (frS (List.take k ops.toList) S F0).getD t (.c undef) = s := by simp [List.getD, h1]
          have e2 : a.tmps.getD t undef = u := by
            have h4 : a.tmps[t]? = some u := by simpa using h2
            simp [h4]
          rwa [e1, e2] at h3
      have hcount : n + 1 + k = ops.size := by
        rw [← hn, ← inv.size]
        have hlen : L.toList.length = L.size := by simp
        have h5 : (L.toList.take k).count false = 0 := by
          rw [List.count_eq_zero]
          intro hmem
          obtain ⟨i, hi, he⟩ := List.getElem_of_mem hmem
          have hik : i < k := by simp at hi; omega
          have hil : i < L.size := by simp at hi; omega
          have := hall i hik
          simp [hil] at this
          simp [this] at he
        have h6 : (L.toList.drop k).count false = (L.toList.drop k).length := by
          rw [List.count_eq_length]
          intro b hb
          obtain ⟨i, hi, he⟩ := List.getElem_of_mem hb
          have hil : k + i < L.size := by simp at hi; omega
          have := inv.tl (k + i) (by omega) (by rw [← inv.size]; exact hil)
          simp [hil] at this
          rw [← he]; simp [this]
        have h7 : left L = (L.toList.take k).count false + (L.toList.drop k).count false := by
          unfold left
          rw [← List.count_append, List.take_append_drop]
        rw [h7, h5, h6, List.length_drop, hlen]
        have := inv.size
        omega
      exact tail_forced (m := m) hm ho (n + 1) k L a w hcount (Nat.le_refl _) inv.size inv.closed hall inv.tl hfin
    · obtain ⟨i0, hi0, hu0⟩ : ∃ i, i < k ∧ L.getD i false = false := by
        rw [Classical.not_forall] at hall
        obtain ⟨i, hi⟩ := hall
        rw [Classical.not_imp] at hi
        exact ⟨i, hi.1, by simpa using hi.2⟩
      refine ⟨fun h0 => ?_, fun i hi => ?_⟩
      · -- something is ready
        exfalso
        have : ∀ n i, i < n → i < ops.size → L.getD i false = false → False := by
          intro n
          induction n with
          | zero => intro i h; omega
          | succ n ihn =>
            intro i hin his hu
            by_cases hbad : ∃ i', i' < i ∧ L.getD i' false = false
            · obtain ⟨i', h1, h2⟩ := hbad
              exact ihn i' (by omega) (by omega) h2
            · have hoi : ops[i]? = some ops[i] := by simp [his]
              have hr : i ∈ Region.ready .any ops L := by
                refine mem_ready.2 ⟨getD_ft (by rw [inv.size]; exact his) hu, _, hoi, fun e he hb => ?_⟩
                have g := List.all_eq_true.1 hm i (List.mem_range.2 his)
                rw [hoi] at g
                simp only [Bool.and_eq_true] at g
                have g4 := Array.all_eq_true'.1 g.1 e he
                rw [hb] at g4
                have g5 : e.on < i := by simpa using g4
                cases hle : L.getD e.on false with
                | true => rfl
                | false => exact absurd ⟨e.on, g5, hle⟩ hbad
              rw [h0] at hr; exact List.not_mem_nil hr
        exact this (i0 + 1) i0 (by omega) (by omega) hu0
      · obtain ⟨hu, o, hoi, hallE⟩ := mem_ready.1 hi
        have hlt : i < ops.size := (Array.getElem?_eq_some_iff.1 hoi).1
        have hik : i < k := by
          rcases Nat.lt_or_ge i k with h | h
          · exact h
          · exfalso
            have g := List.all_eq_true.1 ho i (List.mem_range.2 hlt)
            have g2 := List.all_eq_true.1 g i0 (List.mem_range.2 (by omega))
            rw [show decide (i < k) = false by simp; omega] at g2
            simp only [Bool.false_and, Bool.or_false] at g2
            have := ahead hm inv.closed inv.size hi (by omega) g2
            rw [hu0] at this; cases this
        have hil : i < L.size := by rw [inv.size]; exact hlt
        have holist : ops.toList[i]? = some o := by simpa using hoi
        -- what operation i looks at
        have look : ∀ t, t ∈ o.looksAt ops → ((frS ((ops.toList.take k).take i) S F0).getD t (.c undef)).holds (a.tmps.getD t undef) w := by
          intro t ht
          rw [List.take_take, Nat.min_eq_left (by omega)]
          by_cases htl : t < F0.length
          · have h3 := inv.slot t htl
            rw [cur_congr ops.toList S _ (fun i' => decide (i' < i)) _ _ t rfl (fun i' o' ho' hd' => by
              have hi's : i' < ops.size := by have := (List.getElem?_eq_some_iff.1 ho').1; simpa using this
              have hoa : ops[i']? = some o' := by simpa using ho'
              rcases Nat.lt_trichotomy i' i with h4 | h4 | h4
              · have g := List.all_eq_true.1 ho i (List.mem_range.2 hlt)
                have g2 := List.all_eq_true.1 g i' (List.mem_range.2 h4)
                rw [hoi, hoa] at g2
                simp only [Bool.or_eq_true, Bool.and_eq_true] at g2
                rcases g2 with g2 | g2
                · rw [ahead hm inv.closed inv.size hi h4 g2]; simp [h4]
                · exact absurd ht ((Oper.apart_spec g2.2).1 t hd')
              · subst h4; rw [getD_tf hu]; simp
              · rw [show decide (i' < i) = false by simp; omega]
                cases hl : L.getD i' false with
                | false => rfl
                | true =>
                  exfalso
                  have g := List.all_eq_true.1 ho i' (List.mem_range.2 hi's)
                  have g2 := List.all_eq_true.1 g i (List.mem_range.2 h4)
                  rw [hoi, hoa] at g2
                  simp only [Bool.or_eq_true, Bool.and_eq_true] at g2
                  rcases g2 with g2 | g2
                  · have := closed_mask hm inv.closed i' i' i (Nat.le_refl _) hi's hlt g2 hl
                    rw [getD_tf hu] at this; cases this
                  · exact absurd ht ((Oper.apart_spec g2.2).2.2 t hd')), cur_take, ← frS_getD _ _ F0 _ t htl rfl] at h3
            exact h3
          · have e1 : (frS (List.take i ops.toList) S F0).getD t (.c undef) = .c undef := by
              rw [List.getD, List.getElem?_eq_none (Nat.le_trans (Nat.le_of_eq (frS_length _ _ _)) (Nat.le_of_not_lt htl))]; rfl
            have e2 : a.tmps.getD t undef = undef := by
              have h9 : a.tmps.size ≤ t := by rw [inv.asize]; exact Nat.le_of_not_lt htl
              simp [Array.getElem?_eq_none h9]
            rw [e1, e2]; rfl
        have opnds : ∀ x ∈ o.op.operands.toList, (opndS (frS ((ops.toList.take k).take i) S F0) x).holds (a.eval x) w := by
          intro x hx
          cases x with
          | tmp t => exact look t (List.mem_append_left _ (List.mem_filterMap.2 ⟨.tmp t, hx, rfl⟩))
          | const v => rfl
          | global g => rfl
          | func f => rfl
        -- behind it
        have next : ∀ v w', G (upL (fun t => L.getD t false) i) w' → (E i w w' ∨ w = w') → (S i).holds v w' → wpAny P .any ops Q' n (L.setIfInBounds i true) (a.put o.dst v) w' := by
          intro v w' hb hE hv
          have hb' : G (fun t => (L.setIfInBounds i true).getD t false) w' := by rw [getD_upL hil]; exact hb
          refine ih _ _ _ ⟨by simpa using inv.size, closed_set inv.closed hi, fun i' h1 h2 => by rw [getD_set_ne true (by omega)]; exact inv.tl i' h1 h2, hb', by rw [put_size]; exact inv.asize, by rw [put_defers]; exact inv.defers, fun t ht => ?_⟩ (by have := left_set hil hu; omega)
          rw [put_getD _ _ _ _ (by rw [inv.asize]; exact ht)]
          by_cases hd : o.dst = some t
          · rw [if_pos hd, cur_last ops.toList S _ _ t i o holist hd (getD_set_eq hil _) (fun j o' hj hoj hd' => by
              rw [getD_set_ne false (by omega)]
              have hjs : j < ops.size := by have := (List.getElem?_eq_some_iff.1 hoj).1; simpa using this
              cases hl : L.getD j false with
              | false => rfl
              | true =>
                exfalso
                have hoa : ops[j]? = some o' := by simpa using hoj
                have g := List.all_eq_true.1 ho j (List.mem_range.2 hjs)
                have g2 := List.all_eq_true.1 g i (List.mem_range.2 hj)
                rw [hoi, hoa] at g2
                simp only [Bool.or_eq_true, Bool.and_eq_true] at g2
                rcases g2 with g2 | g2
                · have := closed_mask hm inv.closed j j i (Nat.le_refl _) hjs hlt g2 hl
                  rw [getD_tf hu] at this; cases this
                · exact (Oper.apart_spec g2.2).2.1 t hd hd')]
            exact hv
          · rw [if_neg hd, cur_congr ops.toList S _ (fun i => L.getD i false) _ _ t rfl (fun i' o' ho' hd' => by
              by_cases e : i = i'
              · subst e
                obtain rfl : o' = o := Option.some.inj (ho'.symm.trans holist)
                exact absurd hd' hd
              · rw [getD_set_ne false e])]
            have hold := inv.slot t ht
            rcases hE with hE | rfl
            · rcases cur_cases ops.toList S (fun i => L.getD i false) (fun t => F0.getD t (.c undef)) t with h | ⟨j, hj, h⟩
              · rw [h] at hold ⊢
                exact (hF t).holds hold
              · rw [h] at hold ⊢
                refine hS j i (fun e => ?_) _ _ _ hE hold
                subst e
                rw [getD_tf hu] at hj
                cases hj
            · exact hold
        have hstep := hst i o (by rw [List.getElem?_take, if_pos hik]; exact holist)
        unfold wpOp
        rw [hoi]
        simp only []
        unfold stE at hstep
        have hL : (fun t => L.getD t false) i = false := getD_tf hu
        have hM : ∀ j, j < i → (m.getD i 0).testBit j = true → (fun t => L.getD t false) j = true := fun j hj hb => ahead hm inv.closed inv.size hi hj hb
        cases hg : o.guard with
        | none =>
          rw [hg] at hstep
          rw [if_pos (by simp [Region.wanted, hg])]
          exact .inl (wp_of_upE (hstep _ a.eval w inv.cls hL hM opnds) fun v w' h1 h2 h3 => next v w' h1 (.inl h2) h3)
        | some jw =>
          obtain ⟨j, want⟩ := jw
          rw [hg] at hstep
          obtain ⟨b, ⟨t, hdt, hFt⟩, hif⟩ := hstep
          have ht : t ∈ o.looksAt ops := List.mem_append_right _ (by simp [hg, hdt])
          have h3 := look t ht
          have h4 : (frS ((ops.toList.take k).take i) S F0).getD t (.c undef) = .c (.bool b) := by simp only [List.getD, hFt]; rfl
          rw [h4] at h3
          have h5 : a.tmps.getD t undef = .bool b := h3
          have htl : t < a.tmps.size := by
            have := (List.getElem?_eq_some_iff.1 hFt).1
            rw [frS_length] at this
            rw [inv.asize]; exact this
          have h6 : a.tmps[t]? = some (.bool b) := by simpa [htl] using h5
          have hy : yielded ops a.tmps j = some b := by simp [yielded, hdt, h6]
          by_cases hbw : b = want
          · rw [if_pos hbw] at hif
            rw [if_pos (by simp [Region.wanted, hg, hy, hbw])]
            exact .inl (wp_of_upE (hif _ a.eval w inv.cls hL hM opnds) fun v w' h1 h2 h3 => next v w' h1 (.inl h2) h3)
          · rw [if_neg hbw] at hif
            rw [if_neg (by simp [Region.wanted, hg, hy, hbw])]
            exact next undef w (hif.2 _ w inv.cls hL hM) (.inr rfl) (by rw [hif.1]; rfl)


theorem wp_region_E {id : Nat} (k : Nat) {l : List Oper} {vs : List Value} {d : List Deferred} {w : World} {Q' : Exit → Act → World → Prop} (G : (Nat → Bool) → World → Prop) (E : Nat → World → World → Prop) (hm : P.follows .mixedOrders = true) (hB : regB l.toArray k = true) (hG : G (fun _ => false) w.drew)
    (h : ∀ Q : List Slot → Prop, (∀ F, (∀ w', G (fun i => decide (i < k)) w' → closeS w' F fun l' => wpList P l.toArray Q' (l.drop k) ⟨l'.toArray, d⟩ w') → Q F) → wpE P l.toArray (masks l) G E Q 0 (l.take k) (vs.map Slot.c)) :
    (Code.region id l.toArray true).wp P Q' ⟨vs.toArray, d⟩ w := by
  have h := h _ fun _ h => h
  simp only [regB, Bool.and_eq_true, decide_eq_true_eq] at hB
  obtain ⟨⟨h1, h2⟩, h4⟩ := hB
  obtain ⟨S, hS, hst, hQ⟩ := wpE_fun _ _ _ h
  refine wp_region_any hm ?_
  have hF : ∀ t, IsC ((slotsOfList vs).getD t (.c undef)) := fun t => by
    unfold slotsOfList
    rcases Nat.lt_or_ge t vs.length with ht | ht
    · simp [List.getD, ht]; exact isC_c _
    · simp [List.getD, List.getElem?_eq_none ht]; exact isC_c _
  have hl0 : ∀ i, (Array.replicate l.toArray.size false).getD i false = false := fun i => by
    rcases Nat.lt_or_ge i l.length with hi | hi <;> simp [hi]
  have hl1 : (fun i => (Array.replicate l.toArray.size false).getD i false) = fun _ => false := funext hl0
  refine region_mainE (m := masks l) (d := d) (S := S) (G := G) (E := E) (F0 := slotsOfList vs) (k := k) h1 h2 h4 hF (fun i => by have := hS i; rwa [Nat.zero_add] at this) (fun i o ho => by have := hst i o (by simpa using ho); rw [Nat.zero_add] at this; simpa [slotsOfList] using this) (by simpa [slotsOfList] using hQ) l.toArray.size _ _ _
    ⟨by simp, fun j oj hj hl => absurd hl (by rw [hl0]; simp), fun i _ hi => getD_ft (by simpa using hi) (hl0 i), by rw [hl1]; exact hG, by simp [slotsOfList], rfl, fun t ht => ?_⟩ (by simp [left])
  rw [cur_congr _ S _ (fun _ => false) _ _ t rfl (fun i o _ _ => hl0 i), cur_none]
  have ht' : t < vs.length := by simpa [slotsOfList] using ht
  simp [slotsOfList, List.getD, ht', Slot.holds]
end
end Go.Proofs.YtbpkclopcoaikaaGreatDoor
namespace Go.Proofs.YtbpkclopcoaikaaGreatDoor
open Go.RowKit
set_option linter.unusedVariables false
/-- A slot that the steps of all other operations keep, but for those that must come before. -/
def StabF (m : List Nat) (E : Nat → World → World → Prop) (i : Nat) (s : Slot) : Prop := ∀ j, j ≠ i → (m.getD i 0).testBit j = false → ∀ u w w', E j w w' → s.holds u w → s.holds u w'
theorem stabF_c (m : List Nat) (E : Nat → World → World → Prop) (i : Nat) (v : Value) : StabF m E i (.c v) := fun _ _ _ _ _ _ _ h => h
def upF (P : Program) (K : World → Prop) (T : World → Prop) (s : Slot) : Result Next → Prop
  | .ok (.value u) w' => K w' ∧ T w' ∧ s.holds u w'
  | .ok .skip w' => K w' ∧ T w' ∧ s.holds undef w'
  | .ok (.enter f args) w' => Calls P f args w' fun e w'' => ∃ v, e = .returned v ∧ K w'' ∧ T w'' ∧ s.holds v w''
  | _ => False
def opF (P : Program) (m : List Nat) (G : (Nat → Bool) → World → Prop) (E : Nat → World → World → Prop) (F : List Slot) (i : Nat) (o : Oper) (s : Slot) : Prop :=
  ∀ (L : Nat → Bool) (ev : Operand → Value) (w : World), G L w → L i = false → (∀ j, j < i → (m.getD i 0).testBit j = true → L j = true) → (∀ x ∈ o.op.operands.toList, (opndS F x).holds (ev x) w) → upF P (G (upL L i)) (E i w) s ((execOp ev o).run P w)
def stF (P : Program) (ops : Array Oper) (m : List Nat) (G : (Nat → Bool) → World → Prop) (E : Nat → World → World → Prop) (F : List Slot) (i : Nat) (o : Oper) (s : Slot) : Prop :=
  match o.guard with
  | none => opF P m G E F i o s
  | some (j, want) => ∃ b, guardS ops F j b ∧ (if b = want then opF P m G E F i o s else s = .c undef ∧ ∀ (L : Nat → Bool) (w : World), G L w → L i = false → (∀ j, j < i → (m.getD i 0).testBit j = true → L j = true) → G (upL L i) w)
def wpF (P : Program) (ops : Array Oper) (m : List Nat) (G : (Nat → Bool) → World → Prop) (E : Nat → World → World → Prop) (Q : List Slot → Prop) : Nat → List Oper → List Slot → Prop
  | _, [], F => Q F
  | i, o :: os, F => ∃ s : Slot, StabF m E i s ∧ stF P ops m G E F i o s ∧ wpF P ops m G E Q (i + 1) os (setS F o.dst s)
section
variable {P : Program} {ops : Array Oper} {m : List Nat} {G : (Nat → Bool) → World → Prop} {E : Nat → World → World → Prop} {Q : List Slot → Prop} {i : Nat} {o : Oper} {rest : List Oper} {F : List Slot}
theorem wpF_nil (h : Q F) : wpF P ops m G E Q i [] F := h
theorem wpF_c {v : Value} (hg : o.guard = none) (h : opF P m G E F i o (.c v)) (hr : wpF P ops m G E Q (i + 1) rest (setS F o.dst (.c v))) : wpF P ops m G E Q i (o :: rest) F :=
  ⟨.c v, stabF_c m E i v, by unfold stF; rw [hg]; exact h, hr⟩
theorem wpF_p {R : Value → World → Prop} (hg : o.guard = none) (hs : StabF m E i (.p R)) (h : opF P m G E F i o (.p R)) (hr : wpF P ops m G E Q (i + 1) rest (setS F o.dst (.p R))) : wpF P ops m G E Q i (o :: rest) F :=
  ⟨.p R, hs, by unfold stF; rw [hg]; exact h, hr⟩
theorem wpF_gc {v : Value} {j : Nat} {b : Bool} (hg : o.guard = some (j, b)) (hb : guardS ops F j b) (h : opF P m G E F i o (.c v)) (hr : wpF P ops m G E Q (i + 1) rest (setS F o.dst (.c v))) : wpF P ops m G E Q i (o :: rest) F :=
  ⟨.c v, stabF_c m E i v, by unfold stF; rw [hg]; exact ⟨b, hb, by rw [if_pos rfl]; exact h⟩, hr⟩
theorem wpF_skip {j : Nat} {b : Bool} (hg : o.guard = some (j, !b)) (hb : guardS ops F j b) (hk : ∀ (L : Nat → Bool) (w : World), G L w → L i = false → (∀ j, j < i → (m.getD i 0).testBit j = true → L j = true) → G (upL L i) w)
    (hr : wpF P ops m G E Q (i + 1) rest (setS F o.dst (.c undef))) : wpF P ops m G E Q i (o :: rest) F :=
  ⟨.c undef, stabF_c m E i _, by unfold stF; rw [hg]; exact ⟨b, hb, by rw [if_neg (by cases b <;> simp)]; exact ⟨rfl, hk⟩⟩, hr⟩
end
theorem wp_of_upF {P : Program} {o : Oper} {a : Act} {w : World} {K : Act → World → Prop} {K1 T1 : World → Prop} {Q' : Exit → Act → World → Prop} {s : Slot} (h : upF P K1 T1 s ((execOp a.eval o).run P w))
    (hK : ∀ v w', K1 w' → T1 w' → s.holds v w' → K (a.put o.dst v) w') : o.wp P a w K Q' := by
  unfold Oper.wp
  generalize (execOp a.eval o).run P w = r at *
  cases r with
  | ok n w' =>
    cases n <;> simp only [upF] at h <;> simp only [Oper.upon]
    case value u => exact hK _ _ h.1 h.2.1 h.2.2
    case skip => exact hK _ _ h.1 h.2.1 h.2.2
    case enter f args => exact h.mono fun e w'' ⟨v, he, h1, h2, h3⟩ => by subst he; exact hK _ _ h1 h2 h3
  | halt x w' => simp only [upF] at h
theorem wpF_fun {P : Program} {ops : Array Oper} {m : List Nat} {G : (Nat → Bool) → World → Prop} {E : Nat → World → World → Prop} {Q : List Slot → Prop} : ∀ (l : List Oper) (n : Nat) (F : List Slot), wpF P ops m G E Q n l F →
    ∃ S : Nat → Slot, (∀ i, StabF m E (n + i) (S i)) ∧ (∀ i o, l[i]? = some o → stF P ops m G E (frS (l.take i) S F) (n + i) o (S i)) ∧ Q (frS l S F)
  | [], n, F, h => ⟨fun _ => .c undef, fun _ => stabF_c m E _ _, fun i o h => by simp at h, h⟩
  | o :: l, n, F, h => by
    obtain ⟨s, h0, h1, h2⟩ := h
    obtain ⟨S, g1, g2, g3⟩ := wpF_fun l _ _ h2
    refine ⟨fun i => match i with | 0 => s | i + 1 => S i, fun i => by
      cases i with
      | zero => exact h0
      | succ i => rw [show n + (i + 1) = n + 1 + i by omega]; exact g1 i, fun i o' ho => ?_, g3⟩
    cases i with
    | zero => obtain rfl : o = o' := by simpa using ho
              exact h1
    | succ i => have := g2 i o' (by simpa using ho)
                rw [show n + (i + 1) = n + 1 + i by omega]
                exact this
theorem cur_casesF : ∀ (os : List Oper) (S : Nat → Slot) (L : Nat → Bool) (f : Tmp → Slot) (t : Tmp), cur os S L f t = f t ∨ ∃ j, L j = true ∧ cur os S L f t = S j
  | [], _, _, _, _ => .inl rfl
  | o :: os, S, L, f, t => by
    unfold cur
    rcases cur_casesF os (fun i => S (i + 1)) (fun i => L (i + 1)) (fun t => if L 0 = true ∧ o.dst = some t then S 0 else f t) t with h | ⟨j, h1, h2⟩
    · rw [h]
      by_cases hc : L 0 = true ∧ o.dst = some t
      · exact .inr ⟨0, hc.1, if_pos hc⟩
      · exact .inl (if_neg hc)
    · exact .inr ⟨j + 1, h1, h2⟩
section
variable {P : Program} {ops : Array Oper}
structure InvF (ops : Array Oper) (k : Nat) (G : (Nat → Bool) → World → Prop) (F0 : List Slot) (S : Nat → Slot) (d : List Deferred) (L : Array Bool) (a : Act) (w : World) : Prop where
  size : L.size = ops.size
  closed : Closed ops L
  tl : ∀ i, k ≤ i → i < ops.size → L.getD i true = false
  cls : G (fun i => L.getD i false) w
  asize : a.tmps.size = F0.length
  defers : a.defers = d
  slot : ∀ t, t < F0.length → (cur ops.toList S (fun i => L.getD i false) (fun t => F0.getD t (.c undef)) t).holds (a.tmps.getD t undef) w
theorem region_mainF {m : List Nat} {k : Nat} {G : (Nat → Bool) → World → Prop} {E : Nat → World → World → Prop} {F0 : List Slot} {S : Nat → Slot} {d : List Deferred} {Q' : Exit → Act → World → Prop}
    (hm : maskOkB ops m = true) (ho : ordB ops m k = true) (hk : k ≤ ops.size) (hF : ∀ t, IsC (F0.getD t (.c undef))) (hS : ∀ i, StabF m E i (S i))
    (hst : ∀ i o, (ops.toList.take k)[i]? = some o → stF P ops m G E (frS ((ops.toList.take k).take i) S F0) i o (S i))
    (hQ : ∀ w, G (fun i => decide (i < k)) w → closeS w (frS (ops.toList.take k) S F0) fun l => wpList P ops Q' (ops.toList.drop k) ⟨l.toArray, d⟩ w) :
    ∀ (n : Nat) (L : Array Bool) (a : Act) (w : World), InvF ops k G F0 S d L a w → left L = n → wpAny P .any ops Q' n L a w := by
  intro n
  induction n with
  | zero =>
    intro L a w inv hn
    have hall : ∀ i, i < ops.size → L.getD i false = true := fun i hi => left_zero hn i (by rw [inv.size]; exact hi)
    by_cases hkk : k < ops.size
    · have h1 := inv.tl k (Nat.le_refl _) hkk
      have h2 := hall k hkk
      rw [getD_tf h1] at h2; cases h2
    · obtain rfl : k = ops.size := by omega
      have hcls := G_all inv.size (fun i hi => hall i hi) (fun i h1 h2 => by omega) inv.cls
      refine tail_forced (m := m) hm ho 0 ops.size L a w (by simp) (Nat.le_refl _) inv.size inv.closed hall (fun i h1 h2 => by omega) ?_
      have := closeS_apply w _ _ a.tmps.toList (hQ w hcls) (by rw [frS_length]; simp [inv.asize]) fun t s u h1 h2 => ?_
      · have e : (⟨a.tmps.toList.toArray, d⟩ : Act) = a := by cases a; simp [← inv.defers]
        rwa [e] at this
      · have ht : t < F0.length := by
          have := (List.getElem?_eq_some_iff.1 h1).1
          rwa [frS_length] at this
        have h3 := inv.slot t ht
        rw [cur_congr ops.toList S _ (fun i => decide (i < ops.size)) _ _ t rfl (fun i o hoi _ => by
          have hi : i < ops.size := by have := (List.getElem?_eq_some_iff.1 hoi).1; simpa using this
          rw [hall i hi]; simp [hi]), cur_take, ← frS_getD _ _ F0 _ t ht rfl] at h3
        have e1 : (frS (List.take ops.size ops.toList) S F0).getD t (.c undef) = s := by simp [List.getD, h1]
        have e2 : a.tmps.getD t undef = u := by
          have h4 : a.tmps[t]? = some u := by simpa using h2
          simp [h4]
        rwa [e1, e2] at h3
  | succ n ih =>
    intro L a w inv hn
    by_cases hall : ∀ i, i < k → L.getD i false = true
    · -- the tail
      have hcls := G_all inv.size hall inv.tl inv.cls
      have hfin : wpList P ops Q' (ops.toList.drop k) a w := by
        have := closeS_apply w _ _ a.tmps.toList (hQ w hcls) (by rw [frS_length]; simp [inv.asize]) fun t s u h1 h2 => ?_
        · have e : (⟨a.tmps.toList.toArray, d⟩ : Act) = a := by cases a; simp [← inv.defers]
          rwa [e] at this
        · have ht : t < F0.length := by
            have := (List.getElem?_eq_some_iff.1 h1).1
            rwa [frS_length] at this
          have h3 := inv.slot t ht
          rw [cur_congr ops.toList S _ (fun i => decide (i < k)) _ _ t rfl (fun i o hoi _ => by
            have hi : i < ops.size := by have := (List.getElem?_eq_some_iff.1 hoi).1; simpa using this
            by_cases hik : i < k
            · rw [hall i hik]; simp [hik]
            · rw [getD_tf (inv.tl i (by omega) hi)]; simp [hik]), cur_take, ← frS_getD _ _ F0 _ t ht rfl] at h3
          have e1 : (frS (List.take k ops.toList) S F0).getD t (.c undef) = s := by simp [List.getD, h1]
          have e2 : a.tmps.getD t undef = u := by
            have h4 : a.tmps[t]? = some u := by simpa using h2
            simp [h4]
          rwa [e1, e2] at h3
      have hcount : n + 1 + k = ops.size := by
        rw [← hn, ← inv.size]
        have hlen : L.toList.length = L.size := by simp
        have h5 : (L.toList.take k).count false = 0 := by
          rw [List.count_eq_zero]
          intro hmem
          obtain ⟨i, hi, he⟩ := List.getElem_of_mem hmem
          have hik : i < k := by simp at hi; omega
          have hil : i < L.size := by simp at hi; omega
          have := hall i hik
          simp [hil] at this
          simp [this] at he
        have h6 : (L.toList.drop k).count false = (L.toList.drop k).length := by
          rw [List.count_eq_length]
          intro b hb
          obtain ⟨i, hi, he⟩ := List.getElem_of_mem hb
          have hil : k + i < L.size := by simp at hi; omega
          have := inv.tl (k + i) (by omega) (by rw [← inv.size]; exact hil)
          simp [hil] at this
          rw [← he]; simp [this]
        have h7 : left L = (L.toList.take k).count false + (L.toList.drop k).count false := by
          unfold left
          rw [← List.count_append, List.take_append_drop]
        rw [h7, h5, h6, List.length_drop, hlen]
        have := inv.size
        omega
      exact tail_forced (m := m) hm ho (n + 1) k L a w hcount (Nat.le_refl _) inv.size inv.closed hall inv.tl hfin
    · obtain ⟨i0, hi0, hu0⟩ : ∃ i, i < k ∧ L.getD i false = false := by
        rw [Classical.not_forall] at hall
        obtain ⟨i, hi⟩ := hall
        rw [Classical.not_imp] at hi
        exact ⟨i, hi.1, by simpa using hi.2⟩
      refine ⟨fun h0 => ?_, fun i hi => ?_⟩
      · -- something is ready
        exfalso
        have : ∀ n i, i < n → i < ops.size → L.getD i false = false → False := by
          intro n
          induction n with
          | zero => intro i h; omega
          | succ n ihn =>
            intro i hin his hu
            by_cases hbad : ∃ i', i' < i ∧ L.getD i' false = false
            · obtain ⟨i', h1, h2⟩ := hbad
              exact ihn i' (by omega) (by omega) h2
            · have hoi : ops[i]? = some ops[i] := by simp [his]
              have hr : i ∈ Region.ready .any ops L := by
                refine mem_ready.2 ⟨getD_ft (by rw [inv.size]; exact his) hu, _, hoi, fun e he hb => ?_⟩
                have g := List.all_eq_true.1 hm i (List.mem_range.2 his)
                rw [hoi] at g
                simp only [Bool.and_eq_true] at g
                have g4 := Array.all_eq_true'.1 g.1 e he
                rw [hb] at g4
                have g5 : e.on < i := by simpa using g4
                cases hle : L.getD e.on false with
                | true => rfl
                | false => exact absurd ⟨e.on, g5, hle⟩ hbad
              rw [h0] at hr; exact List.not_mem_nil hr
        exact this (i0 + 1) i0 (by omega) (by omega) hu0
      · obtain ⟨hu, o, hoi, hallE⟩ := mem_ready.1 hi
        have hlt : i < ops.size := (Array.getElem?_eq_some_iff.1 hoi).1
        have hik : i < k := by
          rcases Nat.lt_or_ge i k with h | h
          · exact h
          · exfalso
            have g := List.all_eq_true.1 ho i (List.mem_range.2 hlt)
            have g2 := List.all_eq_true.1 g i0 (List.mem_range.2 (by omega))
            rw [show decide (i < k) = false by simp; omega] at g2
            simp only [Bool.false_and, Bool.or_false] at g2
            have := ahead hm inv.closed inv.size hi (by omega) g2
            rw [hu0] at this; cases this
        have hil : i < L.size := by rw [inv.size]; exact hlt
        have holist : ops.toList[i]? = some o := by simpa using hoi
        -- what operation i looks at
        have look : ∀ t, t ∈ o.looksAt ops → ((frS ((ops.toList.take k).take i) S F0).getD t (.c undef)).holds (a.tmps.getD t undef) w := by
          intro t ht
          rw [List.take_take, Nat.min_eq_left (by omega)]
          by_cases htl : t < F0.length
          · have h3 := inv.slot t htl
            rw [cur_congr ops.toList S _ (fun i' => decide (i' < i)) _ _ t rfl (fun i' o' ho' hd' => by
              have hi's : i' < ops.size := by have := (List.getElem?_eq_some_iff.1 ho').1; simpa using this
              have hoa : ops[i']? = some o' := by simpa using ho'
              rcases Nat.lt_trichotomy i' i with h4 | h4 | h4
              · have g := List.all_eq_true.1 ho i (List.mem_range.2 hlt)
                have g2 := List.all_eq_true.1 g i' (List.mem_range.2 h4)
                rw [hoi, hoa] at g2
                simp only [Bool.or_eq_true, Bool.and_eq_true] at g2
                rcases g2 with g2 | g2
                · rw [ahead hm inv.closed inv.size hi h4 g2]; simp [h4]
                · exact absurd ht ((Oper.apart_spec g2.2).1 t hd')
              · subst h4; rw [getD_tf hu]; simp
              · rw [show decide (i' < i) = false by simp; omega]
                cases hl : L.getD i' false with
                | false => rfl
                | true =>
                  exfalso
                  have g := List.all_eq_true.1 ho i' (List.mem_range.2 hi's)
                  have g2 := List.all_eq_true.1 g i (List.mem_range.2 h4)
                  rw [hoi, hoa] at g2
                  simp only [Bool.or_eq_true, Bool.and_eq_true] at g2
                  rcases g2 with g2 | g2
                  · have := closed_mask hm inv.closed i' i' i (Nat.le_refl _) hi's hlt g2 hl
                    rw [getD_tf hu] at this; cases this
                  · exact absurd ht ((Oper.apart_spec g2.2).2.2 t hd')), cur_take, ← frS_getD _ _ F0 _ t htl rfl] at h3
            exact h3
          · have e1 : (frS (List.take i ops.toList) S F0).getD t (.c undef) = .c undef := by
              rw [List.getD, List.getElem?_eq_none (Nat.le_trans (Nat.le_of_eq (frS_length _ _ _)) (Nat.le_of_not_lt htl))]; rfl
            have e2 : a.tmps.getD t undef = undef := by
              have h9 : a.tmps.size ≤ t := by rw [inv.asize]; exact Nat.le_of_not_lt htl
              simp [Array.getElem?_eq_none h9]
            rw [e1, e2]; rfl
        have opnds : ∀ x ∈ o.op.operands.toList, (opndS (frS ((ops.toList.take k).take i) S F0) x).holds (a.eval x) w := by
          intro x hx
          cases x with
          | tmp t => exact look t (List.mem_append_left _ (List.mem_filterMap.2 ⟨.tmp t, hx, rfl⟩))
          | const v => rfl
          | global g => rfl
          | func f => rfl
        -- behind it
        have next : ∀ v w', G (upL (fun t => L.getD t false) i) w' → (E i w w' ∨ w = w') → (S i).holds v w' → wpAny P .any ops Q' n (L.setIfInBounds i true) (a.put o.dst v) w' := by
          intro v w' hb hE hv
          have hb' : G (fun t => (L.setIfInBounds i true).getD t false) w' := by rw [getD_upL hil]; exact hb
          refine ih _ _ _ ⟨by simpa using inv.size, closed_set inv.closed hi, fun i' h1 h2 => by rw [getD_set_ne true (by omega)]; exact inv.tl i' h1 h2, hb', by rw [put_size]; exact inv.asize, by rw [put_defers]; exact inv.defers, fun t ht => ?_⟩ (by have := left_set hil hu; omega)
          rw [put_getD _ _ _ _ (by rw [inv.asize]; exact ht)]
          by_cases hd : o.dst = some t
          · rw [if_pos hd, cur_last ops.toList S _ _ t i o holist hd (getD_set_eq hil _) (fun j o' hj hoj hd' => by
              rw [getD_set_ne false (by omega)]
              have hjs : j < ops.size := by have := (List.getElem?_eq_some_iff.1 hoj).1; simpa using this
              cases hl : L.getD j false with
              | false => rfl
              | true =>
                exfalso
                have hoa : ops[j]? = some o' := by simpa using hoj
                have g := List.all_eq_true.1 ho j (List.mem_range.2 hjs)
                have g2 := List.all_eq_true.1 g i (List.mem_range.2 hj)
                rw [hoi, hoa] at g2
                simp only [Bool.or_eq_true, Bool.and_eq_true] at g2
                rcases g2 with g2 | g2
                · have := closed_mask hm inv.closed j j i (Nat.le_refl _) hjs hlt g2 hl
                  rw [getD_tf hu] at this; cases this
                · exact (Oper.apart_spec g2.2).2.1 t hd hd')]
            exact hv
          · rw [if_neg hd, cur_congr ops.toList S _ (fun i => L.getD i false) _ _ t rfl (fun i' o' ho' hd' => by
              by_cases e : i = i'
              · subst e
                obtain rfl : o' = o := Option.some.inj (ho'.symm.trans holist)
                exact absurd hd' hd
              · rw [getD_set_ne false e])]
            have hold := inv.slot t ht
            rcases hE with hE | rfl
            · rcases cur_casesF ops.toList S (fun i => L.getD i false) (fun t => F0.getD t (.c undef)) t with h | ⟨j, hj, h⟩
              · rw [h] at hold ⊢
                exact (hF t).holds hold
              · rw [h] at hold ⊢
                have hjs : j < ops.size := by
                  rcases Nat.lt_or_ge j ops.size with h9 | h9
                  · exact h9
                  · simp [Array.getElem?_eq_none (show L.size ≤ j by rw [inv.size]; exact h9)] at hj
                refine hS j i (fun e => ?_) ?_ _ _ _ hE hold
                · subst e
                  rw [getD_tf hu] at hj
                  cases hj
                · cases hb9 : (m.getD j 0).testBit i with
                  | false => rfl
                  | true =>
                    exfalso
                    have := closed_mask hm inv.closed j j i (Nat.le_refl _) hjs hlt hb9 hj
                    rw [getD_tf hu] at this; cases this
            · exact hold
        have hstep := hst i o (by rw [List.getElem?_take, if_pos hik]; exact holist)
        unfold wpOp
        rw [hoi]
        simp only []
        unfold stF at hstep
        have hL : (fun t => L.getD t false) i = false := getD_tf hu
        have hM : ∀ j, j < i → (m.getD i 0).testBit j = true → (fun t => L.getD t false) j = true := fun j hj hb => ahead hm inv.closed inv.size hi hj hb
        cases hg : o.guard with
        | none =>
          rw [hg] at hstep
          rw [if_pos (by simp [Region.wanted, hg])]
          exact .inl (wp_of_upF (hstep _ a.eval w inv.cls hL hM opnds) fun v w' h1 h2 h3 => next v w' h1 (.inl h2) h3)
        | some jw =>
          obtain ⟨j, want⟩ := jw
          rw [hg] at hstep
          obtain ⟨b, ⟨t, hdt, hFt⟩, hif⟩ := hstep
          have ht : t ∈ o.looksAt ops := List.mem_append_right _ (by simp [hg, hdt])
          have h3 := look t ht
          have h4 : (frS ((ops.toList.take k).take i) S F0).getD t (.c undef) = .c (.bool b) := by simp only [List.getD, hFt]; rfl
          rw [h4] at h3
          have h5 : a.tmps.getD t undef = .bool b := h3
          have htl : t < a.tmps.size := by
            have := (List.getElem?_eq_some_iff.1 hFt).1
            rw [frS_length] at this
            rw [inv.asize]; exact this
          have h6 : a.tmps[t]? = some (.bool b) := by simpa [htl] using h5
          have hy : yielded ops a.tmps j = some b := by simp [yielded, hdt, h6]
          by_cases hbw : b = want
          · rw [if_pos hbw] at hif
            rw [if_pos (by simp [Region.wanted, hg, hy, hbw])]
            exact .inl (wp_of_upF (hif _ a.eval w inv.cls hL hM opnds) fun v w' h1 h2 h3 => next v w' h1 (.inl h2) h3)
          · rw [if_neg hbw] at hif
            rw [if_neg (by simp [Region.wanted, hg, hy, hbw])]
            exact next undef w (hif.2 _ w inv.cls hL hM) (.inr rfl) (by rw [hif.1]; rfl)


theorem wp_region_F {id : Nat} (k : Nat) {l : List Oper} {vs : List Value} {d : List Deferred} {w : World} {Q' : Exit → Act → World → Prop} (G : (Nat → Bool) → World → Prop) (E : Nat → World → World → Prop) (hm : P.follows .mixedOrders = true) (hB : regB l.toArray k = true) (hG : G (fun _ => false) w.drew)
    (h : ∀ Q : List Slot → Prop, (∀ F, (∀ w', G (fun i => decide (i < k)) w' → closeS w' F fun l' => wpList P l.toArray Q' (l.drop k) ⟨l'.toArray, d⟩ w') → Q F) → wpF P l.toArray (masks l) G E Q 0 (l.take k) (vs.map Slot.c)) :
    (Code.region id l.toArray true).wp P Q' ⟨vs.toArray, d⟩ w := by
  have h := h _ fun _ h => h
  simp only [regB, Bool.and_eq_true, decide_eq_true_eq] at hB
  obtain ⟨⟨h1, h2⟩, h4⟩ := hB
  obtain ⟨S, hS, hst, hQ⟩ := wpF_fun _ _ _ h
  refine wp_region_any hm ?_
  have hF : ∀ t, IsC ((slotsOfList vs).getD t (.c undef)) := fun t => by
    unfold slotsOfList
    rcases Nat.lt_or_ge t vs.length with ht | ht
    · simp [List.getD, ht]; exact isC_c _
    · simp [List.getD, List.getElem?_eq_none ht]; exact isC_c _
  have hl0 : ∀ i, (Array.replicate l.toArray.size false).getD i false = false := fun i => by
    rcases Nat.lt_or_ge i l.length with hi | hi <;> simp [hi]
  have hl1 : (fun i => (Array.replicate l.toArray.size false).getD i false) = fun _ => false := funext hl0
  refine region_mainF (m := masks l) (d := d) (S := S) (G := G) (E := E) (F0 := slotsOfList vs) (k := k) h1 h2 h4 hF (fun i => by have := hS i; rwa [Nat.zero_add] at this) (fun i o ho => by have := hst i o (by simpa using ho); rw [Nat.zero_add] at this; simpa [slotsOfList] using this) (by simpa [slotsOfList] using hQ) l.toArray.size _ _ _
    ⟨by simp, fun j oj hj hl => absurd hl (by rw [hl0]; simp), fun i _ hi => getD_ft (by simpa using hi) (hl0 i), by rw [hl1]; exact hG, by simp [slotsOfList], rfl, fun t ht => ?_⟩ (by simp [left])
  rw [cur_congr _ S _ (fun _ => false) _ _ t rfl (fun i o _ _ => hl0 i), cur_none]
  have ht' : t < vs.length := by simpa [slotsOfList] using ht
  simp [slotsOfList, List.getD, ht', Slot.holds]
end
end Go.Proofs.YtbpkclopcoaikaaGreatDoor
namespace Go.Proofs.YtbpkclopcoaikaaGreatDoor
open Go.RowKit
set_option linter.unusedVariables false
/-- A slot that the steps of all other operations keep, but for those that must come before. -/
def StabV (m : List Nat) (E : Nat → World → World → Prop) (i : Nat) (s : Slot) : Prop := ∀ j, j ≠ i → (m.getD i 0).testBit j = false → ∀ u w w', E j w w' → s.holds u w → s.holds u w'
theorem stabV_c (m : List Nat) (E : Nat → World → World → Prop) (i : Nat) (v : Value) : StabV m E i (.c v) := fun _ _ _ _ _ _ _ h => h
def putT (d : Option Tmp) (v : Value) (tm : Nat → Value) : Nat → Value := fun t => if d = some t then v else tm t
def upV (P : Program) (K : Value → World → Prop) (T : World → Prop) (s : Slot) : Result Next → Prop
  | .ok (.value u) w' => K u w' ∧ T w' ∧ s.holds u w'
  | .ok .skip w' => K undef w' ∧ T w' ∧ s.holds undef w'
  | .ok (.enter f args) w' => Calls P f args w' fun e w'' => ∃ v, e = .returned v ∧ K v w'' ∧ T w'' ∧ s.holds v w''
  | _ => False
def opV (P : Program) (m : List Nat) (G : (Nat → Bool) → (Nat → Value) → World → Prop) (E : Nat → World → World → Prop) (F : List Slot) (i : Nat) (o : Oper) (s : Slot) : Prop :=
  ∀ (L : Nat → Bool) (tm : Nat → Value) (ev : Operand → Value) (w : World), G L tm w → L i = false → (∀ j, j < i → (m.getD i 0).testBit j = true → L j = true) → (∀ t, ev (.tmp t) = tm t) → (∀ x ∈ o.op.operands.toList, (opndS F x).holds (ev x) w) → upV P (fun u => G (upL L i) (putT o.dst u tm)) (E i w) s ((execOp ev o).run P w)
def stV (P : Program) (ops : Array Oper) (m : List Nat) (G : (Nat → Bool) → (Nat → Value) → World → Prop) (E : Nat → World → World → Prop) (F : List Slot) (i : Nat) (o : Oper) (s : Slot) : Prop :=
  match o.guard with
  | none => opV P m G E F i o s
  | some (j, want) => ∃ b, guardS ops F j b ∧ (if b = want then opV P m G E F i o s else s = .c undef ∧ ∀ (L : Nat → Bool) (tm : Nat → Value) (w : World), G L tm w → L i = false → (∀ j, j < i → (m.getD i 0).testBit j = true → L j = true) → G (upL L i) (putT o.dst undef tm) w)
def wpV (P : Program) (ops : Array Oper) (m : List Nat) (G : (Nat → Bool) → (Nat → Value) → World → Prop) (E : Nat → World → World → Prop) (Q : List Slot → Prop) : Nat → List Oper → List Slot → Prop
  | _, [], F => Q F
  | i, o :: os, F => ∃ s : Slot, StabV m E i s ∧ stV P ops m G E F i o s ∧ wpV P ops m G E Q (i + 1) os (setS F o.dst s)
section
variable {P : Program} {ops : Array Oper} {m : List Nat} {G : (Nat → Bool) → (Nat → Value) → World → Prop} {E : Nat → World → World → Prop} {Q : List Slot → Prop} {i : Nat} {o : Oper} {rest : List Oper} {F : List Slot}
theorem wpV_nil (h : Q F) : wpV P ops m G E Q i [] F := h
theorem wpV_c {v : Value} (hg : o.guard = none) (h : opV P m G E F i o (.c v)) (hr : wpV P ops m G E Q (i + 1) rest (setS F o.dst (.c v))) : wpV P ops m G E Q i (o :: rest) F :=
  ⟨.c v, stabV_c m E i v, by unfold stV; rw [hg]; exact h, hr⟩
theorem wpV_p {R : Value → World → Prop} (hg : o.guard = none) (hs : StabV m E i (.p R)) (h : opV P m G E F i o (.p R)) (hr : wpV P ops m G E Q (i + 1) rest (setS F o.dst (.p R))) : wpV P ops m G E Q i (o :: rest) F :=
  ⟨.p R, hs, by unfold stV; rw [hg]; exact h, hr⟩
theorem wpV_gc {v : Value} {j : Nat} {b : Bool} (hg : o.guard = some (j, b)) (hb : guardS ops F j b) (h : opV P m G E F i o (.c v)) (hr : wpV P ops m G E Q (i + 1) rest (setS F o.dst (.c v))) : wpV P ops m G E Q i (o :: rest) F :=
  ⟨.c v, stabV_c m E i v, by unfold stV; rw [hg]; exact ⟨b, hb, by rw [if_pos rfl]; exact h⟩, hr⟩
theorem wpV_skip {j : Nat} {b : Bool} (hg : o.guard = some (j, !b)) (hb : guardS ops F j b) (hk : ∀ (L : Nat → Bool) (tm : Nat → Value) (w : World), G L tm w → L i = false → (∀ j, j < i → (m.getD i 0).testBit j = true → L j = true) → G (upL L i) (putT o.dst undef tm) w)
    (hr : wpV P ops m G E Q (i + 1) rest (setS F o.dst (.c undef))) : wpV P ops m G E Q i (o :: rest) F :=
  ⟨.c undef, stabV_c m E i _, by unfold stV; rw [hg]; exact ⟨b, hb, by rw [if_neg (by cases b <;> simp)]; exact ⟨rfl, hk⟩⟩, hr⟩
end
theorem putT_eq (a : Act) (d : Option Tmp) (v : Value) (h : ∀ t, d = some t → t < a.tmps.size) : (fun t => (a.put d v).tmps.getD t undef) = putT d v (fun t => a.tmps.getD t undef) := by
  funext t
  unfold putT
  by_cases ht : t < a.tmps.size
  · exact put_getD a d v t ht
  · have h1 : d ≠ some t := fun e => ht (h t e)
    rw [if_neg h1]
    have h2 : (a.put d v).tmps.size ≤ t := by rw [put_size]; omega
    have h3 : a.tmps.size ≤ t := by omega
    simp [Array.getElem?_eq_none h2, Array.getElem?_eq_none h3]
def dstB (l : List Oper) (n : Nat) : Bool := l.all fun o => match o.dst with | none => true | some t => decide (t < n)
theorem dstB_of {l : List Oper} {n : Nat} (h : dstB l n = true) {i : Nat} {o : Oper} (ho : l[i]? = some o) {t : Tmp} (ht : o.dst = some t) : t < n := by
  have := List.all_eq_true.1 h o (List.mem_of_getElem? ho)
  rw [ht] at this
  simpa using this
theorem wp_of_upV {P : Program} {o : Oper} {a : Act} {w : World} {K : Act → World → Prop} {K1 : Value → World → Prop} {T1 : World → Prop} {Q' : Exit → Act → World → Prop} {s : Slot} (h : upV P K1 T1 s ((execOp a.eval o).run P w))
    (hK : ∀ v w', K1 v w' → T1 w' → s.holds v w' → K (a.put o.dst v) w') : o.wp P a w K Q' := by
  unfold Oper.wp
  generalize (execOp a.eval o).run P w = r at *
  cases r with
  | ok n w' =>
    cases n <;> simp only [upV] at h <;> simp only [Oper.upon]
    case value u => exact hK _ _ h.1 h.2.1 h.2.2
    case skip => exact hK _ _ h.1 h.2.1 h.2.2
    case enter f args => exact h.mono fun e w'' ⟨v, he, h1, h2, h3⟩ => by subst he; exact hK _ _ h1 h2 h3
  | halt x w' => simp only [upV] at h
theorem wpV_fun {P : Program} {ops : Array Oper} {m : List Nat} {G : (Nat → Bool) → (Nat → Value) → World → Prop} {E : Nat → World → World → Prop} {Q : List Slot → Prop} : ∀ (l : List Oper) (n : Nat) (F : List Slot), wpV P ops m G E Q n l F →
    ∃ S : Nat → Slot, (∀ i, StabV m E (n + i) (S i)) ∧ (∀ i o, l[i]? = some o → stV P ops m G E (frS (l.take i) S F) (n + i) o (S i)) ∧ Q (frS l S F)
  | [], n, F, h => ⟨fun _ => .c undef, fun _ => stabV_c m E _ _, fun i o h => by simp at h, h⟩
  | o :: l, n, F, h => by
    obtain ⟨s, h0, h1, h2⟩ := h
    obtain ⟨S, g1, g2, g3⟩ := wpV_fun l _ _ h2
    refine ⟨fun i => match i with | 0 => s | i + 1 => S i, fun i => by
      cases i with
      | zero => exact h0
      | succ i => rw [show n + (i + 1) = n + 1 + i by omega]; exact g1 i, fun i o' ho => ?_, g3⟩
    cases i with
    | zero => obtain rfl : o = o' := by simpa using ho
              exact h1
    | succ i => have := g2 i o' (by simpa using ho)
                rw [show n + (i + 1) = n + 1 + i by omega]
                exact this
theorem cur_casesV : ∀ (os : List Oper) (S : Nat → Slot) (L : Nat → Bool) (f : Tmp → Slot) (t : Tmp), cur os S L f t = f t ∨ ∃ j, L j = true ∧ cur os S L f t = S j
  | [], _, _, _, _ => .inl rfl
  | o :: os, S, L, f, t => by
    unfold cur
    rcases cur_casesV os (fun i => S (i + 1)) (fun i => L (i + 1)) (fun t => if L 0 = true ∧ o.dst = some t then S 0 else f t) t with h | ⟨j, h1, h2⟩
    · rw [h]
      by_cases hc : L 0 = true ∧ o.dst = some t
      · exact .inr ⟨0, hc.1, if_pos hc⟩
      · exact .inl (if_neg hc)
    · exact .inr ⟨j + 1, h1, h2⟩
section
variable {P : Program} {ops : Array Oper}
structure InvV (ops : Array Oper) (k : Nat) (G : (Nat → Bool) → (Nat → Value) → World → Prop) (F0 : List Slot) (S : Nat → Slot) (d : List Deferred) (L : Array Bool) (a : Act) (w : World) : Prop where
  size : L.size = ops.size
  closed : Closed ops L
  tl : ∀ i, k ≤ i → i < ops.size → L.getD i true = false
  cls : G (fun i => L.getD i false) (fun t => a.tmps.getD t undef) w
  asize : a.tmps.size = F0.length
  defers : a.defers = d
  slot : ∀ t, t < F0.length → (cur ops.toList S (fun i => L.getD i false) (fun t => F0.getD t (.c undef)) t).holds (a.tmps.getD t undef) w
theorem region_mainV {m : List Nat} {k : Nat} {G : (Nat → Bool) → (Nat → Value) → World → Prop} {E : Nat → World → World → Prop} {F0 : List Slot} {S : Nat → Slot} {d : List Deferred} {Q' : Exit → Act → World → Prop}
    (hm : maskOkB ops m = true) (ho : ordB ops m k = true) (hk : k ≤ ops.size) (hF : ∀ t, IsC (F0.getD t (.c undef))) (hS : ∀ i, StabV m E i (S i))
    (hst : ∀ i o, (ops.toList.take k)[i]? = some o → stV P ops m G E (frS ((ops.toList.take k).take i) S F0) i o (S i))
    (hD : ∀ (i : Nat) (o : Oper), ops[i]? = some o → ∀ t, o.dst = some t → t < F0.length)
    (hQ : ∀ w, closeS w (frS (ops.toList.take k) S F0) fun l => G (fun i => decide (i < k)) (fun t => l.getD t undef) w → wpList P ops Q' (ops.toList.drop k) ⟨l.toArray, d⟩ w) :
    ∀ (n : Nat) (L : Array Bool) (a : Act) (w : World), InvV ops k G F0 S d L a w → left L = n → wpAny P .any ops Q' n L a w := by
  intro n
  induction n with
  | zero =>
    intro L a w inv hn
    have hall : ∀ i, i < ops.size → L.getD i false = true := fun i hi => left_zero hn i (by rw [inv.size]; exact hi)
    by_cases hkk : k < ops.size
    · have h1 := inv.tl k (Nat.le_refl _) hkk
      have h2 := hall k hkk
      rw [getD_tf h1] at h2; cases h2
    · obtain rfl : k = ops.size := by omega
      have hcls := G_all (G := fun L w => G L (fun t => a.tmps.getD t undef) w) inv.size (fun i hi => hall i hi) (fun i h1 h2 => by omega) inv.cls
      refine tail_forced (m := m) hm ho 0 ops.size L a w (by simp) (Nat.le_refl _) inv.size inv.closed hall (fun i h1 h2 => by omega) ?_
      have := closeS_apply w _ _ a.tmps.toList (hQ w) (by rw [frS_length]; simp [inv.asize]) fun t s u h1 h2 => ?_
      · have e : (⟨a.tmps.toList.toArray, d⟩ : Act) = a := by cases a; simp [← inv.defers]
        have this := this (by simpa using hcls)
        rwa [e] at this
      · have ht : t < F0.length := by
          have := (List.getElem?_eq_some_iff.1 h1).1
          rwa [frS_length] at this
        have h3 := inv.slot t ht
        rw [cur_congr ops.toList S _ (fun i => decide (i < ops.size)) _ _ t rfl (fun i o hoi _ => by
          have hi : i < ops.size := by have := (List.getElem?_eq_some_iff.1 hoi).1; simpa using this
          rw [hall i hi]; simp [hi]), cur_take, ← frS_getD _ _ F0 _ t ht rfl] at h3
        have e1 : (frS (List.take ops.size ops.toList) S F0).getD t (.c undef) = s := by simp [List.getD, h1]
        have e2 : a.tmps.getD t undef = u := by
          have h4 : a.tmps[t]? = some u := by simpa using h2
          simp [h4]
        rwa [e1, e2] at h3
  | succ n ih =>
    intro L a w inv hn
    by_cases hall : ∀ i, i < k → L.getD i false = true
    · -- the tail
      have hcls := G_all (G := fun L w => G L (fun t => a.tmps.getD t undef) w) inv.size hall inv.tl inv.cls
      have hfin : wpList P ops Q' (ops.toList.drop k) a w := by
        have := closeS_apply w _ _ a.tmps.toList (hQ w) (by rw [frS_length]; simp [inv.asize]) fun t s u h1 h2 => ?_
        · have e : (⟨a.tmps.toList.toArray, d⟩ : Act) = a := by cases a; simp [← inv.defers]
          have this := this (by simpa using hcls)
          rwa [e] at this
        · have ht : t < F0.length := by
            have := (List.getElem?_eq_some_iff.1 h1).1
            rwa [frS_length] at this
          have h3 := inv.slot t ht
          rw [cur_congr ops.toList S _ (fun i => decide (i < k)) _ _ t rfl (fun i o hoi _ => by
            have hi : i < ops.size := by have := (List.getElem?_eq_some_iff.1 hoi).1; simpa using this
            by_cases hik : i < k
            · rw [hall i hik]; simp [hik]
            · rw [getD_tf (inv.tl i (by omega) hi)]; simp [hik]), cur_take, ← frS_getD _ _ F0 _ t ht rfl] at h3
          have e1 : (frS (List.take k ops.toList) S F0).getD t (.c undef) = s := by simp [List.getD, h1]
          have e2 : a.tmps.getD t undef = u := by
            have h4 : a.tmps[t]? = some u := by simpa using h2
            simp [h4]
          rwa [e1, e2] at h3
      have hcount : n + 1 + k = ops.size := by
        rw [← hn, ← inv.size]
        have hlen : L.toList.length = L.size := by simp
        have h5 : (L.toList.take k).count false = 0 := by
          rw [List.count_eq_zero]
          intro hmem
          obtain ⟨i, hi, he⟩ := List.getElem_of_mem hmem
          have hik : i < k := by simp at hi; omega
          have hil : i < L.size := by simp at hi; omega
          have := hall i hik
          simp [hil] at this
          simp [this] at he
        have h6 : (L.toList.drop k).count false = (L.toList.drop k).length := by
          rw [List.count_eq_length]
          intro b hb
          obtain ⟨i, hi, he⟩ := List.getElem_of_mem hb
          have hil : k + i < L.size := by simp at hi; omega
          have := inv.tl (k + i) (by omega) (by rw [← inv.size]; exact hil)
          simp [hil] at this
          rw [← he]; simp [this]
        have h7 : left L = (L.toList.take k).count false + (L.toList.drop k).count false := by
          unfold left
          rw [← List.count_append, List.take_append_drop]
        rw [h7, h5, h6, List.length_drop, hlen]
        have := inv.size
        omega
      exact tail_forced (m := m) hm ho (n + 1) k L a w hcount (Nat.le_refl _) inv.size inv.closed hall inv.tl hfin
    · obtain ⟨i0, hi0, hu0⟩ : ∃ i, i < k ∧ L.getD i false = false := by
        rw [Classical.not_forall] at hall
        obtain ⟨i, hi⟩ := hall
        rw [Classical.not_imp] at hi
        exact ⟨i, hi.1, by simpa using hi.2⟩
      refine ⟨fun h0 => ?_, fun i hi => ?_⟩
      · -- something is ready
        exfalso
        have : ∀ n i, i < n → i < ops.size → L.getD i false = false → False := by
          intro n
          induction n with
          | zero => intro i h; omega
          | succ n ihn =>
            intro i hin his hu
            by_cases hbad : ∃ i', i' < i ∧ L.getD i' false = false
            · obtain ⟨i', h1, h2⟩ := hbad
              exact ihn i' (by omega) (by omega) h2
            · have hoi : ops[i]? = some ops[i] := by simp [his]
              have hr : i ∈ Region.ready .any ops L := by
                refine mem_ready.2 ⟨getD_ft (by rw [inv.size]; exact his) hu, _, hoi, fun e he hb => ?_⟩
                have g := List.all_eq_true.1 hm i (List.mem_range.2 his)
                rw [hoi] at g
                simp only [Bool.and_eq_true] at g
                have g4 := Array.all_eq_true'.1 g.1 e he
                rw [hb] at g4
                have g5 : e.on < i := by simpa using g4
                cases hle : L.getD e.on false with
                | true => rfl
                | false => exact absurd ⟨e.on, g5, hle⟩ hbad
              rw [h0] at hr; exact List.not_mem_nil hr
        exact this (i0 + 1) i0 (by omega) (by omega) hu0
      · obtain ⟨hu, o, hoi, hallE⟩ := mem_ready.1 hi
        have hlt : i < ops.size := (Array.getElem?_eq_some_iff.1 hoi).1
        have hik : i < k := by
          rcases Nat.lt_or_ge i k with h | h
          · exact h
          · exfalso
            have g := List.all_eq_true.1 ho i (List.mem_range.2 hlt)
            have g2 := List.all_eq_true.1 g i0 (List.mem_range.2 (by omega))
            rw [show decide (i < k) = false by simp; omega] at g2
            simp only [Bool.false_and, Bool.or_false] at g2
            have := ahead hm inv.closed inv.size hi (by omega) g2
            rw [hu0] at this; cases this
        have hil : i < L.size := by rw [inv.size]; exact hlt
        have holist : ops.toList[i]? = some o := by simpa using hoi
        -- what operation i looks at
        have look : ∀ t, t ∈ o.looksAt ops → ((frS ((ops.toList.take k).take i) S F0).getD t (.c undef)).holds (a.tmps.getD t undef) w := by
          intro t ht
          rw [List.take_take, Nat.min_eq_left (by omega)]
          by_cases htl : t < F0.length
          · have h3 := inv.slot t htl
            rw [cur_congr ops.toList S _ (fun i' => decide (i' < i)) _ _ t rfl (fun i' o' ho' hd' => by
              have hi's : i' < ops.size := by have := (List.getElem?_eq_some_iff.1 ho').1; simpa using this
              have hoa : ops[i']? = some o' := by simpa using ho'
              rcases Nat.lt_trichotomy i' i with h4 | h4 | h4
              · have g := List.all_eq_true.1 ho i (List.mem_range.2 hlt)
                have g2 := List.all_eq_true.1 g i' (List.mem_range.2 h4)
                rw [hoi, hoa] at g2
                simp only [Bool.or_eq_true, Bool.and_eq_true] at g2
                rcases g2 with g2 | g2
                · rw [ahead hm inv.closed inv.size hi h4 g2]; simp [h4]
                · exact absurd ht ((Oper.apart_spec g2.2).1 t hd')
              · subst h4; rw [getD_tf hu]; simp
              · rw [show decide (i' < i) = false by simp; omega]
                cases hl : L.getD i' false with
                | false => rfl
                | true =>
                  exfalso
                  have g := List.all_eq_true.1 ho i' (List.mem_range.2 hi's)
                  have g2 := List.all_eq_true.1 g i (List.mem_range.2 h4)
                  rw [hoi, hoa] at g2
                  simp only [Bool.or_eq_true, Bool.and_eq_true] at g2
                  rcases g2 with g2 | g2
                  · have := closed_mask hm inv.closed i' i' i (Nat.le_refl _) hi's hlt g2 hl
                    rw [getD_tf hu] at this; cases this
                  · exact absurd ht ((Oper.apart_spec g2.2).2.2 t hd')), cur_take, ← frS_getD _ _ F0 _ t htl rfl] at h3
            exact h3
          · have e1 : (frS (List.take i ops.toList) S F0).getD t (.c undef) = .c undef := by
              rw [List.getD, List.getElem?_eq_none (Nat.le_trans (Nat.le_of_eq (frS_length _ _ _)) (Nat.le_of_not_lt htl))]; rfl
            have e2 : a.tmps.getD t undef = undef := by
              have h9 : a.tmps.size ≤ t := by rw [inv.asize]; exact Nat.le_of_not_lt htl
              simp [Array.getElem?_eq_none h9]
            rw [e1, e2]; rfl
        have opnds : ∀ x ∈ o.op.operands.toList, (opndS (frS ((ops.toList.take k).take i) S F0) x).holds (a.eval x) w := by
          intro x hx
          cases x with
          | tmp t => exact look t (List.mem_append_left _ (List.mem_filterMap.2 ⟨.tmp t, hx, rfl⟩))
          | const v => rfl
          | global g => rfl
          | func f => rfl
        -- behind it
        have next : ∀ v w', G (upL (fun t => L.getD t false) i) (putT o.dst v (fun t => a.tmps.getD t undef)) w' → (E i w w' ∨ w = w') → (S i).holds v w' → wpAny P .any ops Q' n (L.setIfInBounds i true) (a.put o.dst v) w' := by
          intro v w' hb hE hv
          have hb' : G (fun t => (L.setIfInBounds i true).getD t false) (fun t => (a.put o.dst v).tmps.getD t undef) w' := by rw [getD_upL hil, putT_eq _ _ _ (fun t ht => by rw [inv.asize]; exact hD i o hoi t ht)]; exact hb
          refine ih _ _ _ ⟨by simpa using inv.size, closed_set inv.closed hi, fun i' h1 h2 => by rw [getD_set_ne true (by omega)]; exact inv.tl i' h1 h2, hb', by rw [put_size]; exact inv.asize, by rw [put_defers]; exact inv.defers, fun t ht => ?_⟩ (by have := left_set hil hu; omega)
          rw [put_getD _ _ _ _ (by rw [inv.asize]; exact ht)]
          by_cases hd : o.dst = some t
          · rw [if_pos hd, cur_last ops.toList S _ _ t i o holist hd (getD_set_eq hil _) (fun j o' hj hoj hd' => by
              rw [getD_set_ne false (by omega)]
              have hjs : j < ops.size := by have := (List.getElem?_eq_some_iff.1 hoj).1; simpa using this
              cases hl : L.getD j false with
              | false => rfl
              | true =>
                exfalso
                have hoa : ops[j]? = some o' := by simpa using hoj
                have g := List.all_eq_true.1 ho j (List.mem_range.2 hjs)
                have g2 := List.all_eq_true.1 g i (List.mem_range.2 hj)
                rw [hoi, hoa] at g2
                simp only [Bool.or_eq_true, Bool.and_eq_true] at g2
                rcases g2 with g2 | g2
                · have := closed_mask hm inv.closed j j i (Nat.le_refl _) hjs hlt g2 hl
                  rw [getD_tf hu] at this; cases this
                · exact (Oper.apart_spec g2.2).2.1 t hd hd')]
            exact hv
          · rw [if_neg hd, cur_congr ops.toList S _ (fun i => L.getD i false) _ _ t rfl (fun i' o' ho' hd' => by
              by_cases e : i = i'
              · subst e
                obtain rfl : o' = o := Option.some.inj (ho'.symm.trans holist)
                exact absurd hd' hd
              · rw [getD_set_ne false e])]
            have hold := inv.slot t ht
            rcases hE with hE | rfl
            · rcases cur_casesV ops.toList S (fun i => L.getD i false) (fun t => F0.getD t (.c undef)) t with h | ⟨j, hj, h⟩
              · rw [h] at hold ⊢
                exact (hF t).holds hold
              · rw [h] at hold ⊢
                have hjs : j < ops.size := by
                  rcases Nat.lt_or_ge j ops.size with h9 | h9
                  · exact h9
                  · simp [Array.getElem?_eq_none (show L.size ≤ j by rw [inv.size]; exact h9)] at hj
                refine hS j i (fun e => ?_) ?_ _ _ _ hE hold
                · subst e
                  rw [getD_tf hu] at hj
                  cases hj
                · cases hb9 : (m.getD j 0).testBit i with
                  | false => rfl
                  | true =>
                    exfalso
                    have := closed_mask hm inv.closed j j i (Nat.le_refl _) hjs hlt hb9 hj
                    rw [getD_tf hu] at this; cases this
            · exact hold
        have hstep := hst i o (by rw [List.getElem?_take, if_pos hik]; exact holist)
        unfold wpOp
        rw [hoi]
        simp only []
        unfold stV at hstep
        have hL : (fun t => L.getD t false) i = false := getD_tf hu
        have hM : ∀ j, j < i → (m.getD i 0).testBit j = true → (fun t => L.getD t false) j = true := fun j hj hb => ahead hm inv.closed inv.size hi hj hb
        cases hg : o.guard with
        | none =>
          rw [hg] at hstep
          rw [if_pos (by simp [Region.wanted, hg])]
          exact .inl (wp_of_upV (hstep _ _ a.eval w inv.cls hL hM (fun t => rfl) opnds) fun v w' h1 h2 h3 => next v w' h1 (.inl h2) h3)
        | some jw =>
          obtain ⟨j, want⟩ := jw
          rw [hg] at hstep
          obtain ⟨b, ⟨t, hdt, hFt⟩, hif⟩ := hstep
          have ht : t ∈ o.looksAt ops := List.mem_append_right _ (by simp [hg, hdt])
          have h3 := look t ht
          have h4 : (frS ((ops.toList.take k).take i) S F0).getD t (.c undef) = .c (.bool b) := by simp only [List.getD, hFt]; rfl
          rw [h4] at h3
          have h5 : a.tmps.getD t undef = .bool b := h3
          have htl : t < a.tmps.size := by
            have := (List.getElem?_eq_some_iff.1 hFt).1
            rw [frS_length] at this
            rw [inv.asize]; exact this
          have h6 : a.tmps[t]? = some (.bool b) := by simpa [htl] using h5
          have hy : yielded ops a.tmps j = some b := by simp [yielded, hdt, h6]
          by_cases hbw : b = want
          · rw [if_pos hbw] at hif
            rw [if_pos (by simp [Region.wanted, hg, hy, hbw])]
            exact .inl (wp_of_upV (hif _ _ a.eval w inv.cls hL hM (fun t => rfl) opnds) fun v w' h1 h2 h3 => next v w' h1 (.inl h2) h3)
          · rw [if_neg hbw] at hif
            rw [if_neg (by simp [Region.wanted, hg, hy, hbw])]
            exact next undef w (hif.2 _ _ w inv.cls hL hM) (.inr rfl) (by rw [hif.1]; rfl)


theorem wp_region_V {id : Nat} (k : Nat) {l : List Oper} {vs : List Value} {d : List Deferred} {w : World} {Q' : Exit → Act → World → Prop} (G : (Nat → Bool) → (Nat → Value) → World → Prop) (E : Nat → World → World → Prop) (hm : P.follows .mixedOrders = true) (hB : regB l.toArray k = true) (hDB : dstB l vs.length = true) (hG : G (fun _ => false) (fun t => vs.getD t undef) w.drew)
    (h : ∀ Q : List Slot → Prop, (∀ F, (∀ w', closeS w' F fun l' => G (fun i => decide (i < k)) (fun t => l'.getD t undef) w' → wpList P l.toArray Q' (l.drop k) ⟨l'.toArray, d⟩ w') → Q F) → wpV P l.toArray (masks l) G E Q 0 (l.take k) (vs.map Slot.c)) :
    (Code.region id l.toArray true).wp P Q' ⟨vs.toArray, d⟩ w := by
  have h := h _ fun _ h => h
  simp only [regB, Bool.and_eq_true, decide_eq_true_eq] at hB
  obtain ⟨⟨h1, h2⟩, h4⟩ := hB
  obtain ⟨S, hS, hst, hQ⟩ := wpV_fun _ _ _ h
  refine wp_region_any hm ?_
  have hF : ∀ t, IsC ((slotsOfList vs).getD t (.c undef)) := fun t => by
    unfold slotsOfList
    rcases Nat.lt_or_ge t vs.length with ht | ht
    · simp [List.getD, ht]; exact isC_c _
    · simp [List.getD, List.getElem?_eq_none ht]; exact isC_c _
  have hl0 : ∀ i, (Array.replicate l.toArray.size false).getD i false = false := fun i => by
    rcases Nat.lt_or_ge i l.length with hi | hi <;> simp [hi]
  have hl1 : (fun i => (Array.replicate l.toArray.size false).getD i false) = fun _ => false := funext hl0
  refine region_mainV (m := masks l) (d := d) (S := S) (G := G) (E := E) (F0 := slotsOfList vs) (k := k) h1 h2 h4 hF (fun i => by have := hS i; rwa [Nat.zero_add] at this) (fun i o ho => by have := hst i o (by simpa using ho); rw [Nat.zero_add] at this; simpa [slotsOfList] using this) (fun i o ho t ht => by simpa [slotsOfList] using dstB_of hDB (by simpa using ho) ht) (by simpa [slotsOfList] using hQ) l.toArray.size _ _ _
    ⟨by simp, fun j oj hj hl => absurd hl (by rw [hl0]; simp), fun i _ hi => getD_ft (by simpa using hi) (hl0 i), by rw [hl1]; simpa using hG, by simp [slotsOfList], rfl, fun t ht => ?_⟩ (by simp [left])
  rw [cur_congr _ S _ (fun _ => false) _ _ t rfl (fun i o _ _ => hl0 i), cur_none]
  have ht' : t < vs.length := by simpa [slotsOfList] using ht
  simp [slotsOfList, List.getD, ht', Slot.holds]
end
end Go.Proofs.YtbpkclopcoaikaaGreatDoor
