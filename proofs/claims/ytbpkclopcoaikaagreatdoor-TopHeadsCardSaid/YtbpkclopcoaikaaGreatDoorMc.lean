/- Slices of ints, read or owned. Forests told by parents: plain lists, nothing of the program. Labels of a forest in two orders: plain lists. Rows of the call's own, of any size: how they are read, stored into, kept. Nothing of the program is named. Drawn regions that allocate several objects in any order. Nothing of the program is named. Forests: depths, forests in preorder, intervals of nodes: plain lists. Forests in preorder: their numbers, intervals of nodes, what contains a token: plain lists. The stack by which parents are found again from order labels: plain, nothing of the program. -/
import Derived.Test.YtbpkclopcoaikaaGreatDoorProg
import Derived.Test.YtbpkclopcoaikaaGreatDoorMa
import Derived.OwnWalk
import Derived.Test.YtbpkclopcoaikaaGreatDoorMb
namespace Go.Proofs.YtbpkclopcoaikaaGreatDoor
open Go.RowKit
set_option linter.unusedVariables false
set_option linter.unusedSimpArgs false
def iv (x : Int) : Value := .int .i64 x
/-- A slice of ints, read. -/
def IsI (w : World) (a : Option Addr) (n : Nat) (l : List Int) : Prop := n = l.length ∧ Rd w a (l.map iv)
theorem IsI.below {w w' : World} {a : Option Addr} {n : Nat} {l : List Int} (h : IsI w a n l) (hb : Below w.heap.size w w') : IsI w' a n l := ⟨h.1, h.2.below hb⟩
theorem IsI.at_ {w : World} {a : Option Addr} {n : Nat} {l : List Int} (h : IsI w a n l) {k : Nat} (hk : k < n) :
    ∃ b o x, a = some ⟨b, o, none⟩ ∧ b < w.heap.size ∧ l[k]? = some x ∧ w.cell? ⟨b, o + k, none⟩ = some (.int .i64 x) := by
  have hc : l[k]? = some (l[k]'(by have := h.1; omega)) := List.getElem?_eq_getElem _
  obtain ⟨b, o, ha, hb, e⟩ := h.2.at_ (k := k) (v := iv _) (by rw [List.getElem?_map, hc]; rfl)
  exact ⟨b, o, _, ha, hb, hc, e⟩
theorem IsI.cell {w : World} {b o : Nat} {n : Nat} {l : List Int} (h : IsI w (some ⟨b, o, none⟩) n l) {k : Nat} {x : Int} (hk : l[k]? = some x) : w.cell? ⟨b, o + k, none⟩ = some (.int .i64 x) := by
  obtain ⟨b', o', y, he, _, hy, hc⟩ := h.at_ (k := k) (by have := (List.getElem?_eq_some_iff.1 hk).1; have := h.1; omega)
  injection he with he
  injection he with q1 q2
  subst q1 q2
  rw [hk] at hy
  injection hy with hy
  rw [hy]; exact hc
theorem own_isI {w : World} {base n : Nat} {e : TypeId} {v : Value} {l : List Int} (h : w.ownsRow base e 1 v n (l.map iv)) (hn : n = l.length) : ∃ a c, v = .slice a n c ∧ n ≤ c ∧ c ≤ maxLen ∧ IsI w a n l := by
  obtain ⟨_, a, c, hv, hc, hr, _⟩ := own_form h
  refine ⟨a, c, hv, hc, ?_, hn, hr⟩
  rcases h.2 with ⟨h1, _⟩ | ⟨g, cap, cur, h1, _, _, _, hm, _⟩
  · rw [hv] at h1; injection h1 with _ _ h3; rw [h3]; exact Nat.zero_le _
  · rw [hv] at h1; injection h1 with _ _ h3; rw [h3]; exact hm
theorem info_int : (Tryz.prog.info? 3).map (fun i => (i.zero, i.size, i.bytes)) = some (some (.int .i64 0), 1, 8) := by kernel_rfl
theorem grown_set (w : World) (g i : Nat) (v : Value) : w.grownBy (w.setCell ⟨g, i, none⟩ v) (some g) := ⟨rfl, rfl, rfl, by simp [World.setCell], fun k _ hk => heap_setCell_other w ⟨g, i, none⟩ k _ (fun e => hk (by rw [e]))⟩
end Go.Proofs.YtbpkclopcoaikaaGreatDoor
namespace Go.Proofs.YtbpkclopcoaikaaGreatDoor
set_option linter.unusedVariables false
/-- k is the parent of i. -/
def Par (p : List Int) (k i : Nat) : Prop := p[i]? = some (k : Int)
/-- k is a proper ancestor of i. -/
inductive Anc (p : List Int) : Nat → Nat → Prop
  | one {k i : Nat} : Par p k i → Anc p k i
  | up {k j i : Nat} : Par p j i → Anc p k j → Anc p k i
/-- Parents in range without cycles; r tells the depths. -/
structure Forest (p : List Int) (r : Nat → Nat) : Prop where
  rng : ∀ (i : Nat) (x : Int), p[i]? = some x → -1 ≤ x ∧ x < p.length
  root : ∀ (i : Nat) (x : Int), p[i]? = some x → x < 0 → r i = 0
  step : ∀ k i, Par p k i → r i = r k + 1
section
variable {p : List Int} {r : Nat → Nat}
theorem Par.lt {k i : Nat} (h : Par p k i) : i < p.length := (List.getElem?_eq_some_iff.1 h).1
theorem Par.ltk (hF : Forest p r) {k i : Nat} (h : Par p k i) : k < p.length := by have := (hF.rng i _ h).2; omega
theorem Par.uniq {k j i : Nat} (h : Par p k i) (h' : Par p j i) : k = j := by
  unfold Par at h h'
  rw [h] at h'
  injection h' with h'
  omega
theorem Anc.rank (hF : Forest p r) {k i : Nat} (h : Anc p k i) : r k < r i := by
  induction h with
  | one h => have := hF.step _ _ h; omega
  | up h _ ih => have := hF.step _ _ h; omega
theorem Anc.irr (hF : Forest p r) {k : Nat} (h : Anc p k k) : False := by have := h.rank hF; omega
theorem Anc.trans {a b c : Nat} (h : Anc p a b) (h' : Anc p b c) : Anc p a c := by
  induction h' with
  | one k => exact .up k h
  | up k _ ih => exact .up k ih
theorem Anc.ne (hF : Forest p r) {k i : Nat} (h : Anc p k i) : k ≠ i := by rintro rfl; exact h.irr hF
theorem Anc.asymm (hF : Forest p r) {k i : Nat} (h : Anc p k i) (h' : Anc p i k) : False := (h.trans h').irr hF
theorem Anc.lt {k i : Nat} (h : Anc p k i) : i < p.length := by
  cases h with
  | one h => exact h.lt
  | up h _ => exact h.lt
theorem Anc.ltk (hF : Forest p r) {k i : Nat} (h : Anc p k i) : k < p.length := by
  induction h with
  | one h => exact h.ltk hF
  | up _ _ ih => exact ih
theorem Anc.chain {a b i : Nat} (h : Anc p a i) (h' : Anc p b i) : a = b ∨ Anc p a b ∨ Anc p b a := by
  induction h with
  | one k =>
    cases h' with
    | one k' => exact .inl (k.uniq k')
    | up k' m => rw [k.uniq k']; exact .inr (.inr m)
  | up k m ih =>
    cases h' with
    | one k' => rw [k'.uniq k]; exact .inr (.inl m)
    | up k' m' => rw [k'.uniq k] at m'; exact ih m'
theorem Anc.down {i x : Nat} : Anc p i x ↔ ∃ k, Par p i k ∧ (x = k ∨ Anc p k x) := by
  constructor
  · intro h
    induction h with
    | one h => exact ⟨_, h, .inl rfl⟩
    | up h _ ih =>
      obtain ⟨k, h1, h2⟩ := ih
      refine ⟨k, h1, .inr ?_⟩
      rcases h2 with rfl | h2
      · exact .one h
      · exact .up h h2
  · rintro ⟨k, h1, rfl | h2⟩
    · exact .one h1
    · exact (Anc.one h1).trans h2
/-- An ancestor or the node itself. -/
def AncS (p : List Int) (k i : Nat) : Prop := k = i ∨ Anc p k i
/-! ### Who stands before whom -/
def Bef : List Nat → Nat → Nat → Prop
  | [], _, _ => False
  | a :: l, x, y => (x = a ∧ y ∈ l) ∨ Bef l x y
theorem Bef.mem {l : List Nat} {x y : Nat} (h : Bef l x y) : x ∈ l ∧ y ∈ l := by
  induction l with
  | nil => cases h
  | cons a l ih =>
    rcases h with ⟨rfl, h⟩ | h
    · exact ⟨by simp, by simp [h]⟩
    · exact ⟨by simp [(ih h).1], by simp [(ih h).2]⟩
theorem bef_append {l m : List Nat} {x y : Nat} : Bef (l ++ m) x y ↔ Bef l x y ∨ Bef m x y ∨ (x ∈ l ∧ y ∈ m) := by
  induction l with
  | nil => simp [Bef]
  | cons a l ih =>
    simp only [List.cons_append, Bef, ih, List.mem_append, List.mem_cons]
    constructor
    · rintro (⟨h1, h2 | h2⟩ | h | h | ⟨h1, h2⟩)
      · exact .inl (.inl ⟨h1, h2⟩)
      · exact .inr (.inr ⟨.inl h1, h2⟩)
      · exact .inl (.inr h)
      · exact .inr (.inl h)
      · exact .inr (.inr ⟨.inr h1, h2⟩)
    · rintro ((⟨h1, h2⟩ | h) | h | ⟨h1 | h1, h2⟩)
      · exact .inl ⟨h1, .inl h2⟩
      · exact .inr (.inl h)
      · exact .inr (.inr (.inl h))
      · exact .inl ⟨h1, .inr h2⟩
      · exact .inr (.inr (.inr ⟨h1, h2⟩))
theorem bef_flat {f : Nat → List Nat} {ts : List Nat} {x y : Nat} : Bef (ts.flatMap f) x y ↔ (∃ t ∈ ts, Bef (f t) x y) ∨ (∃ t t', Bef ts t t' ∧ x ∈ f t ∧ y ∈ f t') := by
  induction ts with
  | nil => simp [Bef]
  | cons a ts ih =>
    rw [List.flatMap_cons, bef_append, ih]
    constructor
    · rintro (h | (⟨t, h1, h2⟩ | ⟨t, t', h1, h2⟩) | ⟨h1, h2⟩)
      · exact .inl ⟨a, by simp, h⟩
      · exact .inl ⟨t, by simp [h1], h2⟩
      · exact .inr ⟨t, t', .inr h1, h2⟩
      · obtain ⟨t', h3, h4⟩ := List.mem_flatMap.1 h2
        exact .inr ⟨a, t', .inl ⟨rfl, h3⟩, h1, h4⟩
    · rintro (⟨t, h1, h2⟩ | ⟨t, t', h1, h2, h3⟩)
      · rcases List.mem_cons.1 h1 with rfl | h1
        · exact .inl h2
        · exact .inr (.inl (.inl ⟨t, h1, h2⟩))
      · rcases h1 with ⟨rfl, h1⟩ | h1
        · exact .inr (.inr ⟨h2, List.mem_flatMap.2 ⟨t', h1, h3⟩⟩)
        · exact .inr (.inl (.inr ⟨t, t', h1, h2, h3⟩))
theorem bef_total {l : List Nat} {x y : Nat} (hx : x ∈ l) (hy : y ∈ l) (hne : x ≠ y) : Bef l x y ∨ Bef l y x := by
  induction l with
  | nil => cases hx
  | cons a l ih =>
    rcases List.mem_cons.1 hx with h1 | h1 <;> rcases List.mem_cons.1 hy with h2 | h2
    · exact absurd (h1.trans h2.symm) hne
    · exact .inl (.inl ⟨h1, h2⟩)
    · exact .inr (.inl ⟨h2, h1⟩)
    · rcases ih h1 h2 with h | h
      · exact .inl (.inr h)
      · exact .inr (.inr h)
theorem bef_idx {l : List Nat} (hn : l.Nodup) {x y : Nat} (h : Bef l x y) : l.idxOf x < l.idxOf y := by
  induction l with
  | nil => cases h
  | cons a l ih =>
    rw [List.nodup_cons] at hn
    rcases h with ⟨rfl, h⟩ | h
    · have h1 : x ≠ y := by rintro rfl; exact hn.1 h
      have h2 : (x == y) = false := by simpa using h1
      simp [List.idxOf_cons, h2]
    · have h1 : a ≠ x := by rintro rfl; exact hn.1 h.mem.1
      have h2 : a ≠ y := by rintro rfl; exact hn.1 h.mem.2
      have h3 : (a == x) = false := by simpa using h1
      have h4 : (a == y) = false := by simpa using h2
      have := ih hn.2 h
      simp [List.idxOf_cons, h3, h4]
      exact this
theorem bef_pair {l : List Nat} (h : l.Pairwise (· < ·)) {x y : Nat} (hb : Bef l x y) : x < y := by
  induction l with
  | nil => cases hb
  | cons a l ih =>
    rw [List.pairwise_cons] at h
    rcases hb with ⟨rfl, hy⟩ | hb
    · exact h.1 y hy
    · exact ih h.2 hb
/-! ### Walks through a forest -/
def chil (p : List Int) (i : Nat) : List Nat := (List.range p.length).filter fun k => p[k]? == some (i : Int)
def rootsF (p : List Int) : List Nat := (List.range p.length).filter fun k => decide (p.getD k 0 < 0)
theorem mem_chil {i k : Nat} : k ∈ chil p i ↔ Par p i k := by
  unfold chil Par
  rw [List.mem_filter, List.mem_range, beq_iff_eq]
  exact ⟨fun h => h.2, fun h => ⟨(List.getElem?_eq_some_iff.1 h).1, h⟩⟩
theorem mem_roots {k : Nat} : k ∈ rootsF p ↔ ∃ x, p[k]? = some x ∧ x < 0 := by
  unfold rootsF
  rw [List.mem_filter, List.mem_range, decide_eq_true_iff]
  constructor
  · rintro ⟨h1, h2⟩
    refine ⟨p[k], List.getElem?_eq_getElem h1, ?_⟩
    rwa [List.getD_eq_getElem?_getD, List.getElem?_eq_getElem h1, Option.getD_some] at h2
  · rintro ⟨x, h1, h2⟩
    refine ⟨(List.getElem?_eq_some_iff.1 h1).1, ?_⟩
    rw [List.getD_eq_getElem?_getD, h1, Option.getD_some]
    exact h2
theorem range_lt (n : Nat) : (List.range n).Pairwise (· < ·) := List.pairwise_lt_range
theorem chil_lt (i : Nat) : (chil p i).Pairwise (· < ·) := (range_lt _).filter _
theorem roots_lt : (rootsF p).Pairwise (· < ·) := (range_lt _).filter _
def preL (p : List Int) : Nat → Nat → List Nat
  | 0, _ => []
  | f + 1, i => i :: (chil p i).flatMap (preL p f)
def postL (p : List Int) : Nat → Nat → List Nat
  | 0, _ => []
  | f + 1, i => (chil p i).flatMap (postL p f) ++ [i]
/-- The fuel is enough below i. -/
def Enough (p : List Int) (r : Nat → Nat) (f i : Nat) : Prop := ∀ x, AncS p i x → r x < r i + f
theorem Enough.child (hF : Forest p r) {f i k : Nat} (h : Enough p r (f + 1) i) (hk : Par p i k) : Enough p r f k := fun x hx => by
  have h1 := hF.step _ _ hk
  have h2 := h x (.inr (Anc.down.2 ⟨k, hk, hx.imp Eq.symm id⟩))
  omega
theorem Enough.pos {f i : Nat} (h : Enough p r f i) : 0 < f := by have := h i (.inl rfl); omega
theorem mem_pre (hF : Forest p r) : ∀ (f i : Nat), Enough p r f i → ∀ x, x ∈ preL p f i ↔ AncS p i x
  | 0, i, h, x => absurd h.pos (by omega)
  | f + 1, i, h, x => by
    unfold preL AncS
    rw [List.mem_cons, List.mem_flatMap, Anc.down]
    constructor
    · rintro (rfl | ⟨k, hk, hx⟩)
      · exact .inl rfl
      · rw [mem_chil] at hk
        exact .inr ⟨k, hk, ((mem_pre hF f k (h.child hF hk) x).1 hx).imp Eq.symm id⟩
    · rintro (rfl | ⟨k, hk, hx⟩)
      · exact .inl rfl
      · exact .inr ⟨k, mem_chil.2 hk, (mem_pre hF f k (h.child hF hk) x).2 (hx.imp Eq.symm id)⟩
theorem mem_post (hF : Forest p r) : ∀ (f i : Nat), Enough p r f i → ∀ x, x ∈ postL p f i ↔ AncS p i x
  | 0, i, h, x => absurd h.pos (by omega)
  | f + 1, i, h, x => by
    unfold postL AncS
    rw [List.mem_append, List.mem_flatMap, Anc.down]
    constructor
    · rintro (⟨k, hk, hx⟩ | hx)
      · rw [mem_chil] at hk
        exact .inr ⟨k, hk, ((mem_post hF f k (h.child hF hk) x).1 hx).imp Eq.symm id⟩
      · exact .inl (by simpa [eq_comm] using hx)
    · rintro (rfl | ⟨k, hk, hx⟩)
      · exact .inr (by simp)
      · exact .inl ⟨k, mem_chil.2 hk, (mem_post hF f k (h.child hF hk) x).2 (hx.imp Eq.symm id)⟩
/-- Two sisters' trees share nothing. -/
theorem sisters (hF : Forest p r) {i t t' x : Nat} (h : Par p i t) (h' : Par p i t') (hx : AncS p t x) (hx' : AncS p t' x) : t = t' := by
  have st : ∀ {a b : Nat}, Par p i a → Par p i b → ¬ Anc p a b := fun {a b} ha hb hab => by
    have h1 := hF.step _ _ ha
    have h2 := hF.step _ _ hb
    have := hab.rank hF
    omega
  rcases hx with rfl | hx <;> rcases hx' with rfl | hx'
  · rfl
  · exact absurd hx' (st h' h)
  · exact absurd hx (st h h')
  · rcases hx.chain hx' with e | e | e
    · exact e
    · exact absurd e (st h h')
    · exact absurd e (st h' h)
theorem roots_apart (hF : Forest p r) {t t' x : Nat} (h : t ∈ rootsF p) (h' : t' ∈ rootsF p) (hx : AncS p t x) (hx' : AncS p t' x) : t = t' := by
  have st : ∀ {a b : Nat}, b ∈ rootsF p → ¬ Anc p a b := fun {a b} hb hab => by
    obtain ⟨y, h1, h2⟩ := mem_roots.1 hb
    have := hF.root _ _ h1 h2
    have := hab.rank hF
    omega
  rcases hx with rfl | hx <;> rcases hx' with rfl | hx'
  · rfl
  · exact absurd hx' (st h)
  · exact absurd hx (st h')
  · rcases hx.chain hx' with e | e | e
    · exact e
    · exact absurd e (st h')
    · exact absurd e (st h)
/-- The two orders tell who is an ancestor. -/
def Told (p : List Int) (l m : List Nat) : Prop := ∀ x y, Bef l x y → (Anc p x y ∧ Bef m y x) ∨ (¬ Anc p x y ∧ ¬ Anc p y x ∧ Bef m x y)
theorem told_trees (hF : Forest p r) {f : Nat} {ts : List Nat} (hs : ∀ t ∈ ts, Enough p r f t) (hp : ∀ t ∈ ts, Told p (preL p f t) (postL p f t)) (ha : ∀ t ∈ ts, ∀ t' ∈ ts, ∀ x, AncS p t x → AncS p t' x → t = t') (hn : ts.Pairwise (· < ·)) : Told p (ts.flatMap (preL p f)) (ts.flatMap (postL p f)) := by
  intro x y hb
  rcases bef_flat.1 hb with ⟨t, ht, h⟩ | ⟨t, t', hb', hx, hy⟩
  · rcases hp t ht x y h with ⟨h1, h2⟩ | ⟨h1, h2, h3⟩
    · exact .inl ⟨h1, bef_flat.2 (.inl ⟨t, ht, h2⟩)⟩
    · exact .inr ⟨h1, h2, bef_flat.2 (.inl ⟨t, ht, h3⟩)⟩
  · have hlt := bef_pair hn hb'
    obtain ⟨ht, ht'⟩ := hb'.mem
    have hx' := (mem_pre hF f t (hs t ht) x).1 hx
    have hy' := (mem_pre hF f t' (hs t' ht') y).1 hy
    have dn : ∀ {a b c : Nat}, AncS p a b → Anc p b c → AncS p a c := fun h1 h2 => by
      rcases h1 with rfl | h1
      · exact .inr h2
      · exact .inr (h1.trans h2)
    refine .inr ⟨fun h => ?_, fun h => ?_, bef_flat.2 (.inr ⟨t, t', hb', (mem_post hF f t (hs t ht) x).2 hx', (mem_post hF f t' (hs t' ht') y).2 hy'⟩)⟩
    · have := ha t ht t' ht' y (dn hx' h) hy'; omega
    · have := ha t ht t' ht' x hx' (dn hy' h); omega
theorem told_tree (hF : Forest p r) : ∀ (f i : Nat), Enough p r f i → Told p (preL p f i) (postL p f i)
  | 0, i, h => absurd h.pos (by omega)
  | f + 1, i, h => by
    have hs : ∀ t ∈ chil p i, Enough p r f t := fun t ht => h.child hF (mem_chil.1 ht)
    have ht := told_trees hF hs (fun t ht => told_tree hF f t (hs t ht)) (fun t ht t' ht' x => sisters hF (mem_chil.1 ht) (mem_chil.1 ht')) (chil_lt i)
    intro x y hb
    unfold preL at hb
    unfold postL
    rcases hb with ⟨rfl, hy⟩ | hb
    · obtain ⟨k, hk, hy⟩ := List.mem_flatMap.1 hy
      have hy' := (mem_pre hF f k (hs k hk) y).1 hy
      exact .inl ⟨Anc.down.2 ⟨k, mem_chil.1 hk, hy'.imp Eq.symm id⟩, bef_append.2 (.inr (.inr ⟨List.mem_flatMap.2 ⟨k, hk, (mem_post hF f k (hs k hk) y).2 hy'⟩, by simp⟩))⟩
    · rcases ht x y hb with ⟨h1, h2⟩ | ⟨h1, h2, h3⟩
      · exact .inl ⟨h1, bef_append.2 (.inl h2)⟩
      · exact .inr ⟨h1, h2, bef_append.2 (.inl h3)⟩
/-- The whole forest, in both orders. -/
def PRE (p : List Int) (f : Nat) : List Nat := (rootsF p).flatMap (preL p f)
def POST (p : List Int) (f : Nat) : List Nat := (rootsF p).flatMap (postL p f)
theorem told_all (hF : Forest p r) {f : Nat} (h : ∀ t ∈ rootsF p, Enough p r f t) : Told p (PRE p f) (POST p f) :=
  told_trees hF h (fun t ht => told_tree hF f t (h t ht)) (fun t ht t' ht' x => roots_apart hF ht ht') roots_lt
theorem root_of (hF : Forest p r) : ∀ (n i : Nat), r i = n → i < p.length → ∃ t ∈ rootsF p, AncS p t i
  | 0, i, hn, hi => by
    refine ⟨i, mem_roots.2 ⟨_, List.getElem?_eq_getElem hi, ?_⟩, .inl rfl⟩
    rcases (show p[i] < 0 ∨ 0 ≤ p[i] by omega) with h | h
    · exact h
    · have := hF.step p[i].toNat i (by unfold Par; rw [List.getElem?_eq_getElem hi, Int.toNat_of_nonneg h])
      omega
  | n + 1, i, hn, hi => by
    rcases (show p[i] < 0 ∨ 0 ≤ p[i] by omega) with h | h
    · have := hF.root i _ (List.getElem?_eq_getElem hi) h; omega
    · have hp : Par p p[i].toNat i := by unfold Par; rw [List.getElem?_eq_getElem hi, Int.toNat_of_nonneg h]
      have hs := hF.step _ _ hp
      obtain ⟨t, h1, h2⟩ := root_of hF n p[i].toNat (by omega) (hp.ltk hF)
      refine ⟨t, h1, ?_⟩
      rcases h2 with h2 | h2
      · exact .inr (.one (h2 ▸ hp))
      · exact .inr (.up hp h2)
theorem mem_PRE (hF : Forest p r) {f : Nat} (h : ∀ t ∈ rootsF p, Enough p r f t) (i : Nat) : i ∈ PRE p f ↔ i < p.length := by
  unfold PRE
  rw [List.mem_flatMap]
  constructor
  · rintro ⟨t, ht, hi⟩
    rcases (mem_pre hF f t (h t ht) i).1 hi with rfl | hi
    · obtain ⟨x, h1, -⟩ := mem_roots.1 ht
      exact (List.getElem?_eq_some_iff.1 h1).1
    · exact hi.lt
  · intro hi
    obtain ⟨t, h1, h2⟩ := root_of hF (r i) i rfl hi
    exact ⟨t, h1, (mem_pre hF f t (h t h1) i).2 h2⟩
theorem mem_POST (hF : Forest p r) {f : Nat} (h : ∀ t ∈ rootsF p, Enough p r f t) (i : Nat) : i ∈ POST p f ↔ i < p.length := by
  rw [← mem_PRE hF h]
  unfold PRE POST
  rw [List.mem_flatMap, List.mem_flatMap]
  constructor
  · rintro ⟨t, ht, hi⟩; exact ⟨t, ht, (mem_pre hF f t (h t ht) i).2 ((mem_post hF f t (h t ht) i).1 hi)⟩
  · rintro ⟨t, ht, hi⟩; exact ⟨t, ht, (mem_post hF f t (h t ht) i).2 ((mem_pre hF f t (h t ht) i).1 hi)⟩
end
end Go.Proofs.YtbpkclopcoaikaaGreatDoor
namespace Go.Proofs.YtbpkclopcoaikaaGreatDoor
set_option linter.unusedVariables false
set_option linter.unusedSimpArgs false
section
variable {p : List Int} {r : Nat → Nat}
theorem nodup_flat {f : Nat → List Nat} {ts : List Nat} (h1 : ∀ t ∈ ts, (f t).Nodup) (h2 : ts.Pairwise fun a b => ∀ x ∈ f a, ∀ y ∈ f b, x ≠ y) : (ts.flatMap f).Nodup := by
  unfold List.Nodup
  rw [List.pairwise_flatMap]
  exact ⟨h1, h2⟩
theorem apart_of {f : Nat → List Nat} {ts : List Nat} (hn : ts.Pairwise (· < ·)) (hm : ∀ t ∈ ts, ∀ x ∈ f t, AncS p t x) (ha : ∀ t ∈ ts, ∀ t' ∈ ts, ∀ x, AncS p t x → AncS p t' x → t = t') : ts.Pairwise fun a b => ∀ x ∈ f a, ∀ y ∈ f b, x ≠ y := by
  refine List.Pairwise.imp_of_mem ?_ hn
  intro a b h1 h2 hlt x hx y hy he
  subst he
  have := ha a h1 b h2 x (hm a h1 x hx) (hm b h2 x hy)
  omega
theorem nodup_pre (hF : Forest p r) : ∀ (f i : Nat), Enough p r f i → (preL p f i).Nodup
  | 0, i, h => absurd h.pos (by omega)
  | f + 1, i, h => by
    have hs : ∀ t ∈ chil p i, Enough p r f t := fun t ht => h.child hF (mem_chil.1 ht)
    unfold preL
    rw [List.nodup_cons]
    constructor
    · intro hm
      obtain ⟨k, hk, hx⟩ := List.mem_flatMap.1 hm
      have h1 := (mem_pre hF f k (hs k hk) i).1 hx
      have h2 := hF.step _ _ (mem_chil.1 hk)
      rcases h1 with h1 | h1
      · subst h1; omega
      · have := h1.rank hF; omega
    · exact nodup_flat (fun t ht => nodup_pre hF f t (hs t ht)) (apart_of (chil_lt i) (fun t ht x hx => (mem_pre hF f t (hs t ht) x).1 hx) (fun t ht t' ht' x => sisters hF (mem_chil.1 ht) (mem_chil.1 ht')))
theorem nodup_post (hF : Forest p r) : ∀ (f i : Nat), Enough p r f i → (postL p f i).Nodup
  | 0, i, h => absurd h.pos (by omega)
  | f + 1, i, h => by
    have hs : ∀ t ∈ chil p i, Enough p r f t := fun t ht => h.child hF (mem_chil.1 ht)
    unfold postL
    rw [List.nodup_append]
    refine ⟨nodup_flat (fun t ht => nodup_post hF f t (hs t ht)) (apart_of (chil_lt i) (fun t ht x hx => (mem_post hF f t (hs t ht) x).1 hx) (fun t ht t' ht' x => sisters hF (mem_chil.1 ht) (mem_chil.1 ht'))), by simp, ?_⟩
    intro a ha b hb he
    subst he
    obtain rfl : a = i := by simpa using hb
    obtain ⟨k, hk, hx⟩ := List.mem_flatMap.1 ha
    have h1 := (mem_post hF f k (hs k hk) a).1 hx
    have h2 := hF.step _ _ (mem_chil.1 hk)
    rcases h1 with h1 | h1
    · subst h1; omega
    · have := h1.rank hF; omega
theorem nodup_PRE (hF : Forest p r) {f : Nat} (h : ∀ t ∈ rootsF p, Enough p r f t) : (PRE p f).Nodup :=
  nodup_flat (fun t ht => nodup_pre hF f t (h t ht)) (apart_of roots_lt (fun t ht x hx => (mem_pre hF f t (h t ht) x).1 hx) (fun t ht t' ht' x => roots_apart hF ht ht'))
theorem nodup_POST (hF : Forest p r) {f : Nat} (h : ∀ t ∈ rootsF p, Enough p r f t) : (POST p f).Nodup :=
  nodup_flat (fun t ht => nodup_post hF f t (h t ht)) (apart_of roots_lt (fun t ht x hx => (mem_post hF f t (h t ht) x).1 hx) (fun t ht t' ht' x => roots_apart hF ht ht'))
/-- The fuel of a forest. -/
def fuelF (p : List Int) (r : Nat → Nat) : Nat := 1 + ((List.range p.length).map r).foldl max 0
theorem foldl_max_le : ∀ (l : List Nat) (a : Nat), a ≤ l.foldl max a ∧ ∀ x ∈ l, x ≤ l.foldl max a
  | [], a => ⟨Nat.le_refl _, fun x h => by cases h⟩
  | y :: l, a => by
    obtain ⟨h1, h2⟩ := foldl_max_le l (max a y)
    simp only [List.foldl_cons]
    refine ⟨by omega, fun x hx => ?_⟩
    rcases List.mem_cons.1 hx with rfl | hx
    · omega
    · exact h2 x hx
theorem fuel_ok (hF : Forest p r) : ∀ t, t < p.length → Enough p r (fuelF p r) t := by
  intro t ht x hx
  have hx' : x < p.length := by
    rcases hx with rfl | hx
    · exact ht
    · exact hx.lt
  have := (foldl_max_le ((List.range p.length).map r) 0).2 (r x) (List.mem_map.2 ⟨x, List.mem_range.2 hx', rfl⟩)
  unfold fuelF
  omega
theorem roots_ltn {t : Nat} (h : t ∈ rootsF p) : t < p.length := by
  obtain ⟨x, h1, -⟩ := mem_roots.1 h
  exact (List.getElem?_eq_some_iff.1 h1).1
/-- The numbers of a node in both orders. -/
def preN (p : List Int) (r : Nat → Nat) (i : Nat) : Nat := (PRE p (fuelF p r)).idxOf i
def postN (p : List Int) (r : Nat → Nat) (i : Nat) : Nat := (POST p (fuelF p r)).idxOf i
theorem roots_ok (hF : Forest p r) : ∀ t ∈ rootsF p, Enough p r (fuelF p r) t := fun t ht => fuel_ok hF t (roots_ltn ht)
theorem preN_inj (hF : Forest p r) {i k : Nat} (hi : i < p.length) (hk : k < p.length) (h : preN p r i = preN p r k) : i = k := by
  have hm := (mem_PRE hF (roots_ok hF) i).2 hi
  have hm' := (mem_PRE hF (roots_ok hF) k).2 hk
  rcases Nat.decEq i k with hne | he
  · rcases bef_total hm hm' hne with hb | hb
    · have := bef_idx (nodup_PRE hF (roots_ok hF)) hb; unfold preN at h; omega
    · have := bef_idx (nodup_PRE hF (roots_ok hF)) hb; unfold preN at h; omega
  · exact he
/-- What two numbers tell. -/
theorem told_nums (hF : Forest p r) {i k : Nat} (hi : i < p.length) (hk : k < p.length) (h : preN p r k < preN p r i) : (Anc p k i ∧ postN p r i < postN p r k) ∨ (¬ Anc p k i ∧ ¬ Anc p i k ∧ postN p r k < postN p r i) := by
  have hm := (mem_PRE hF (roots_ok hF) i).2 hi
  have hm' := (mem_PRE hF (roots_ok hF) k).2 hk
  have hne : k ≠ i := by rintro rfl; omega
  rcases bef_total hm' hm hne with hb | hb
  · rcases told_all hF (roots_ok hF) k i hb with ⟨h1, h2⟩ | ⟨h1, h2, h3⟩
    · exact .inl ⟨h1, bef_idx (nodup_POST hF (roots_ok hF)) h2⟩
    · exact .inr ⟨h1, h2, bef_idx (nodup_POST hF (roots_ok hF)) h3⟩
  · have := bef_idx (nodup_PRE hF (roots_ok hF)) hb; unfold preN at h; omega
theorem anc_pre (hF : Forest p r) {i k : Nat} (h : Anc p k i) : preN p r k < preN p r i := by
  have hi := h.lt
  have hk := h.ltk hF
  rcases Nat.lt_trichotomy (preN p r k) (preN p r i) with h1 | h1 | h1
  · exact h1
  · exact absurd (preN_inj hF hk hi h1) (h.ne hF)
  · rcases told_nums hF hk hi h1 with ⟨h2, -⟩ | ⟨-, h2, -⟩
    · exact absurd h2 (fun h2 => h.asymm hF h2)
    · exact absurd h h2
theorem dom_iff (hF : Forest p r) {i k : Nat} (hi : i < p.length) (hk : k < p.length) : (preN p r k < preN p r i ∧ postN p r i < postN p r k) ↔ Anc p k i := by
  constructor
  · rintro ⟨h1, h2⟩
    rcases told_nums hF hi hk h1 with ⟨h3, -⟩ | ⟨-, -, h3⟩
    · exact h3
    · omega
  · intro h
    have h1 := anc_pre hF h
    rcases told_nums hF hi hk h1 with ⟨-, h3⟩ | ⟨h3, -, -⟩
    · exact ⟨h1, h3⟩
    · exact absurd h h3
theorem prec_iff (hF : Forest p r) {i k : Nat} (hi : i < p.length) (hk : k < p.length) : (preN p r k < preN p r i ∧ postN p r k < postN p r i) ↔ (preN p r k < preN p r i ∧ ¬ Anc p k i) := by
  constructor
  · rintro ⟨h1, h2⟩
    refine ⟨h1, fun h => ?_⟩
    have := ((dom_iff hF hi hk).2 h).2
    omega
  · rintro ⟨h1, h2⟩
    rcases told_nums hF hi hk h1 with ⟨h3, -⟩ | ⟨-, -, h3⟩
    · exact absurd h3 h2
    · exact ⟨h1, h3⟩
end
end Go.Proofs.YtbpkclopcoaikaaGreatDoor
namespace Go.Proofs.YtbpkclopcoaikaaGreatDoor
open Go.RowKit
set_option linter.unusedVariables false
theorem ownG_form {w : World} {base size : Nat} {e : TypeId} {v : Value} {n : Nat} {xs : List Value} (h : w.ownsRow base e size v n xs) : ∃ a c, v = .slice a n c ∧ n ≤ c ∧ Rd w a xs := by
  rcases h.2 with ⟨rfl, rfl⟩ | ⟨g, cap, cur, rfl, hb, hg, hn, _, _, ht⟩
  · refine ⟨none, 0, rfl, Nat.le_refl _, ?_⟩
    have := h.1
    rw [Nat.zero_mul] at this
    exact .inl (List.eq_nil_of_length_eq_zero this)
  · refine ⟨_, cap, rfl, hn, .inr ⟨g, 0, rfl, (Array.getElem?_eq_some_iff.1 hg).1, fun k v hk => ?_⟩⟩
    have := h.cells (g := g) rfl k v hk
    rwa [Addr.add_lit] at this
theorem ownG_blocks {w w' : World} {base size : Nat} {e : TypeId} {v : Value} {n : Nat} {xs : List Value} (h : w.ownsRow base e size v n xs) (hb : ∀ k, v.ownBlock = some k → w'.heap[k]? = w.heap[k]?) : w'.ownsRow base e size v n xs := by
  refine ⟨h.1, ?_⟩
  rcases h.2 with h | ⟨g', cap, cur, rfl, h2, h3, h4⟩
  · exact .inl h
  · exact .inr ⟨g', cap, cur, rfl, h2, (hb g' rfl).trans h3, h4⟩
theorem ownG_lt {w : World} {base size : Nat} {e : TypeId} {v : Value} {n : Nat} {xs : List Value} (h : w.ownsRow base e size v n xs) {k : Nat} (hk : v.ownBlock = some k) : base ≤ k ∧ k < w.heap.size := by
  rcases h.2 with ⟨rfl, _⟩ | ⟨g', cap, cur, rfl, h2, h3, h4⟩
  · simp [Value.ownBlock] at hk
  · simp [Value.ownBlock] at hk
    subst hk
    exact ⟨h2, (Array.getElem?_eq_some_iff.1 h3).1⟩
theorem ownG_below {w w' : World} {base size : Nat} {e : TypeId} {v : Value} {n : Nat} {xs : List Value} (h : w.ownsRow base e size v n xs) (hb : Below w.heap.size w w') : w'.ownsRow base e size v n xs :=
  ownG_blocks h fun k hk => hb.block k (ownG_lt h hk).2
theorem ownG_setne {w : World} {base size : Nat} {e : TypeId} {v : Value} {n : Nat} {xs : List Value} (h : w.ownsRow base e size v n xs) {g : Nat} (hg : v.ownBlock ≠ some g) (k : Nat) (u : Value) : (w.setCell ⟨g, k, none⟩ u).ownsRow base e size v n xs :=
  ownG_blocks h fun q hq => Go.RowKit.Below.heap_setCell w ⟨g, k, none⟩ u q (fun e => hg (by rw [hq, e]))
theorem ownG_setlt {w : World} {base size : Nat} {e : TypeId} {v : Value} {n : Nat} {xs : List Value} (h : w.ownsRow base e size v n xs) {g : Nat} (hg : g < base) (k : Nat) (u : Value) : (w.setCell ⟨g, k, none⟩ u).ownsRow base e size v n xs :=
  ownG_blocks h fun q hq => Go.RowKit.Below.heap_setCell w ⟨g, k, none⟩ u q (fun e => by have := (ownG_lt h hq).1; simp at e; omega)
theorem ownG_grown {w w' : World} {base size : Nat} {e : TypeId} {v : Value} {n : Nat} {xs : List Value} {row : Option Nat} (h : w.ownsRow base e size v n xs) (hg : w.grownBy w' row) (hr : ∀ q, v.ownBlock = some q → row ≠ some q) : w'.ownsRow base e size v n xs :=
  ownG_blocks h fun q hq => hg.block q (ownG_lt h hq).2 (Ne.symm (hr q hq))
theorem bstr_size (l : List UInt8) : (bstr l).size = l.length := rfl
theorem wrap_ok {x : Int} (h0 : -9223372036854775808 ≤ x) (h1 : x ≤ 9223372036854775807) : IntKind.i64.wrap x = x := by
  rw [IntKind.wrap_i64]; omega
theorem ownG_inv {w : World} {base size n c : Nat} {a : Option Addr} {T : TypeId} {xs : List Value} (h : w.ownsRow base T size (.slice a n c) n xs) (hn : 0 < n) :
    ∃ g cur, a = some ⟨g, 0, none⟩ ∧ base ≤ g ∧ w.heap[g]? = some (.cells cur T (0, 0)) ∧ n ≤ c ∧ c ≤ maxLen ∧ cur.size = c * size ∧ cur.toList.take (n * size) = xs := by
  rcases h.2 with ⟨h1, h2⟩ | ⟨g, cap, cur, h1, h2, h3, h4, h5, h6, h7⟩
  · omega
  · injection h1 with e1 e2 e3
    subst e1 e3
    exact ⟨g, cur, rfl, h2, h3, h4, h5, h6, h7⟩
theorem ownG_at {w : World} {base size n c g : Nat} {T : TypeId} {xs : List Value} (h : w.ownsRow base T size (.slice (some ⟨g, 0, none⟩) n c) n xs) {k : Nat} {v : Value} (hk : xs[k]? = some v) :
    w.cell? ⟨g, k, none⟩ = some v ∧ w.frozen? ⟨g, k, none⟩ = false := by
  have hx : k < xs.length := (List.getElem?_eq_some_iff.1 hk).1
  rcases h.2 with ⟨h1, _⟩ | ⟨g', cap, cur, h1, hb, hg, hn, _, _, ht⟩
  · cases h1
  · injection h1 with h1 h2 h3
    injection h1 with h1
    injection h1 with h1
    subst h1
    refine ⟨?_, by simp [World.frozen?, hg]⟩
    rw [cell_of_row w g k cur T (0, 0) hg]
    have : (cur.toList.take (n * size))[k]? = some v := by rw [ht]; exact hk
    rw [List.getElem?_take] at this
    split at this
    · simpa using this
    · cases this
theorem ownG_set {w : World} {base size n c g : Nat} {T : TypeId} {xs : List Value} (h : w.ownsRow base T size (.slice (some ⟨g, 0, none⟩) n c) n xs) (k : Nat) (u : Value) :
    (w.setCell ⟨g, k, none⟩ u).ownsRow base T size (.slice (some ⟨g, 0, none⟩) n c) n (xs.set k u) := by
  refine ⟨by simpa using h.1, ?_⟩
  rcases h.2 with ⟨h1, _⟩ | ⟨g', cap, cur, h1, hb, hg, hn, hm, hs, ht⟩
  · cases h1
  · injection h1 with h1 h2 h3
    injection h1 with h1
    injection h1 with h1
    subst h1
    refine .inr ⟨g, cap, cur.setIfInBounds k u, by rw [h3], hb, ?_, hn, hm, by simpa using hs, ?_⟩
    · simp [World.setCell, Array.getElem?_modify, hg]
    · rw [Array.toList_setIfInBounds, List.take_set, ht]
theorem ownG_take {w : World} {base size n c : Nat} {a : Option Addr} {T : TypeId} {xs : List Value} (h : w.ownsRow base T size (.slice a n c) n xs) {i : Nat} (hi : i ≤ n) :
    w.ownsRow base T size (.slice a i c) i (xs.take (i * size)) := by
  have hm : i * size ≤ n * size := Nat.mul_le_mul_right _ hi
  refine ⟨by rw [List.length_take, h.1]; omega, ?_⟩
  rcases h.2 with ⟨h1, h2⟩ | ⟨g, cap, cur, h1, h2, h3, h4, h5, h6, h7⟩
  · injection h1 with e1 e2 e3
    subst e1 e3
    obtain rfl : i = 0 := by omega
    exact .inl ⟨rfl, rfl⟩
  · injection h1 with e1 e2 e3
    subst e1 e3
    exact .inr ⟨g, c, cur, rfl, h2, h3, by omega, h5, h6, by rw [← h7, List.take_take, Nat.min_eq_left hm]⟩
theorem flat_set {α : Type} {enc : α → List Value} {s : Nat} (hs : ∀ x, (enc x).length = s) : ∀ (l : List α) (k j : Nat) (x x' : α) (v : Value), l[k]? = some x → j < s → enc x' = (enc x).set j v → (l.flatMap enc).set (k * s + j) v = (l.set k x').flatMap enc
  | [], k, j, x, x', v, h, _, _ => by simp at h
  | y :: l, 0, j, x, x', v, h, hj, he => by
    simp at h
    subst h
    rw [List.flatMap_cons, List.set_cons_zero, List.flatMap_cons, Nat.zero_mul, Nat.zero_add, List.set_append_left _ _ (by rw [hs]; exact hj), he]
  | y :: l, k + 1, j, x, x', v, h, hj, he => by
    rw [List.flatMap_cons, List.set_cons_succ, List.flatMap_cons, List.set_append_right _ _ (by rw [hs, Nat.add_mul]; omega), hs, show (k + 1) * s + j - s = k * s + j by rw [Nat.add_mul]; omega]
    rw [flat_set hs l k j x x' v (by simpa using h) hj he]
theorem ownG_pos {w : World} {base n size : Nat} {e : TypeId} {v : Value} {xs : List Value} (h : w.ownsRow base e size v n xs) (hn : 0 < n) : ∃ g c, v = .slice (some ⟨g, 0, none⟩) n c ∧ n ≤ c ∧ base ≤ g ∧ g < w.heap.size := by
  rcases h.2 with ⟨h1, h2⟩ | ⟨g, cap, cur, h1, hb, hg, h3, _⟩
  · omega
  · exact ⟨g, cap, h1, h3, hb, (Array.getElem?_eq_some_iff.1 hg).1⟩
/-- The general reading of a row of structs. -/
theorem rd_flat {α : Type} {enc : α → List Value} {s : Nat} (hs : ∀ x, (enc x).length = s) (hfg : ∀ (l : List α) (k j : Nat) (x : α) (v : Value), l[k]? = some x → (enc x)[j]? = some v → (l.flatMap enc)[k * s + j]? = some v) {w : World} {a : Option Addr} {l : List α} (h : Rd w a (l.flatMap enc)) {k : Nat} {x : α} (hx : l[k]? = some x) (h0 : 0 < s) : ∃ b o, a = some ⟨b, o, none⟩ ∧ b < w.heap.size ∧ ∀ j v, (enc x)[j]? = some v → w.cell? ⟨b, o + (k * s + j), none⟩ = some v := by
  obtain ⟨v0, hv0⟩ : ∃ v0, (enc x)[0]? = some v0 := ⟨_, List.getElem?_eq_getElem (by rw [hs]; exact h0)⟩
  obtain ⟨b, o, ha, hb, _⟩ := h.at_ (hfg l k 0 x v0 hx hv0)
  subst ha
  exact ⟨b, o, rfl, hb, fun j v hv => by
    have := Rd.cells h _ rfl (k * s + j) v (hfg l k j x v hx hv)
    rwa [Addr.add_lit] at this⟩
end Go.Proofs.YtbpkclopcoaikaaGreatDoor
namespace Go.Proofs.YtbpkclopcoaikaaGreatDoor
open Go.RowKit
set_option linter.unusedVariables false
set_option linter.unusedSimpArgs false
/-- An operation that allocates: its index, its slot, the object, the value by the block. -/
structure Alc where
  i : Nat
  t : Nat
  o : Obj
  f : Nat → Value
/-- The objects that have come up stand in blocks of their own, behind base. -/
def AlG (W : World) (S : List Alc) : (Nat → Bool) → (Nat → Value) → World → Prop := fun L tm w =>
  Below W.heap.size W w ∧ ∃ gs : Nat → Nat, (∀ s ∈ S, L s.i = true → tm s.t = s.f (gs s.i) ∧ W.heap.size ≤ gs s.i ∧ w.heap[gs s.i]? = some s.o) ∧ (∀ s ∈ S, ∀ s' ∈ S, s.i ≠ s'.i → L s.i = true → L s'.i = true → gs s.i ≠ gs s'.i)
theorem AlG.start {W : World} {S : List Alc} {tm : Nat → Value} {w : World} (h : Below W.heap.size W w) : AlG W S (fun _ => false) tm w :=
  ⟨h, fun _ => 0, ⟨fun s _ h => absurd h (by simp), fun s _ s' _ _ h => absurd h (by simp)⟩⟩
theorem AlG.other {W : World} {S : List Alc} {L : Nat → Bool} {tm : Nat → Value} {w : World} (h : AlG W S L tm w) {i : Nat} {d : Option Nat} (u : Value) (hi : S.all (fun s => s.i != i && d != some s.t) = true) : AlG W S (upL L i) (putT d u tm) w := by
  obtain ⟨hb, gs, h1, h2⟩ := h
  have hn : ∀ s ∈ S, s.i ≠ i ∧ d ≠ some s.t := fun s hs => by
    have := List.all_eq_true.1 hi s hs
    simpa using this
  have hu : ∀ s ∈ S, upL L i s.i = L s.i := fun s hs => by unfold upL; rw [if_neg (hn s hs).1]
  refine ⟨hb, gs, fun s hs hl => ?_, fun s hs s' hs' hne hl hl' => ?_⟩
  · rw [hu s hs] at hl
    unfold putT
    rw [if_neg (hn s hs).2]
    exact h1 s hs hl
  · rw [hu s hs] at hl
    rw [hu s' hs'] at hl'
    exact h2 s hs s' hs' hne hl hl'
theorem AlG.alloc {W : World} {S : List Alc} {L : Nat → Bool} {tm : Nat → Value} {w : World} (h : AlG W S L tm w) (s0 : Alc) (h0 : s0 ∈ S) (hu : S.all (fun s => s.i == s0.i || s.t != s0.t) = true) (hi : ∀ s ∈ S, s.i = s0.i → s = s0) :
    AlG W S (upL L s0.i) (putT (some s0.t) (s0.f w.heap.size) tm) (w.alloc s0.o) := by
  obtain ⟨hb, gs, h1, h2⟩ := h
  have hlt : ∀ s ∈ S, L s.i = true → gs s.i < w.heap.size := fun s hs hl => (Array.getElem?_eq_some_iff.1 (h1 s hs hl).2.2).1
  refine ⟨bl_alloc hb s0.o, fun j => if j = s0.i then w.heap.size else gs j, fun s hs hl => ?_, fun s hs s' hs' hne hl hl' => ?_⟩
  · by_cases e : s.i = s0.i
    · obtain rfl := hi s hs e
      simp only [if_pos]
      exact ⟨by simp [putT], hb.size, heap_alloc_new w _⟩
    · have hl' : L s.i = true := by unfold upL at hl; rwa [if_neg e] at hl
      have ht : s.t ≠ s0.t := by
        have := List.all_eq_true.1 hu s hs
        simp only [Bool.or_eq_true, beq_iff_eq, bne_iff_ne] at this
        exact this.resolve_left e
      obtain ⟨q1, q2, q3⟩ := h1 s hs hl'
      simp only [if_neg e]
      refine ⟨?_, q2, ?_⟩
      · unfold putT
        rw [if_neg (by intro e'; injection e' with e'; exact ht e'.symm)]
        exact q1
      · rw [← q3]; exact heap_alloc_old w s0.o (hlt s hs hl')
  · by_cases e : s.i = s0.i
    · have e' : s'.i ≠ s0.i := fun e' => hne (e.trans e'.symm)
      have hl2 : L s'.i = true := by unfold upL at hl'; rwa [if_neg e'] at hl'
      simp only [if_pos e, if_neg e']
      have := hlt s' hs' hl2
      omega
    · have hl1 : L s.i = true := by unfold upL at hl; rwa [if_neg e] at hl
      by_cases e' : s'.i = s0.i
      · simp only [if_pos e', if_neg e]
        have := hlt s hs hl1
        omega
      · have hl2 : L s'.i = true := by unfold upL at hl'; rwa [if_neg e'] at hl'
        simp only [if_neg e, if_neg e']
        exact h2 s hs s' hs' hne hl1 hl2
/-- A drawn region whose operation s turns the world A into B, and whose operation t, behind it, B into C. -/
def GAp (s t : Nat) (A B C : World) : (Nat → Bool) → World → Prop := fun L w => (L s = false → w = A) ∧ (L t = true → L s = true ∧ w = C) ∧ (L s = true → L t = false → w = B)
theorem GAp.start {s t : Nat} {A B C : World} : GAp s t A B C (fun _ => false) A := ⟨fun _ => rfl, ⟨fun h => absurd h (by simp), fun h => absurd h (by simp)⟩⟩
theorem GAp.same {s t : Nat} {A B C : World} {L : Nat → Bool} {w : World} (h : GAp s t A B C L w) {i : Nat} (h1 : i ≠ s) (h2 : i ≠ t) : GAp s t A B C (upL L i) w := by
  unfold GAp upL at *
  rw [if_neg (Ne.symm h1), if_neg (Ne.symm h2)]
  exact h
theorem GAp.one {s t : Nat} {A B C : World} {L : Nat → Bool} {w : World} (h : GAp s t A B C L w) (hst : s ≠ t) (hs : L s = false) : w = A ∧ GAp s t A B C (upL L s) B := by
  refine ⟨h.1 hs, ?_⟩
  unfold GAp upL at *
  rw [if_pos rfl, if_neg (Ne.symm hst)]
  exact ⟨fun e => absurd e (by simp), ⟨fun ht => absurd (h.2.1 ht).1 (by rw [hs]; simp), fun _ _ => rfl⟩⟩
theorem GAp.two {s t : Nat} {A B C : World} {L : Nat → Bool} {w : World} (h : GAp s t A B C L w) (hst : s ≠ t) (hs : L s = true) (ht : L t = false) : w = B ∧ GAp s t A B C (upL L t) C := by
  refine ⟨h.2.2 hs ht, ?_⟩
  unfold GAp upL at *
  rw [if_pos rfl, if_neg hst, hs]
  exact ⟨fun e => absurd e (by simp), ⟨fun _ => ⟨rfl, rfl⟩, fun _ e => absurd e (by simp)⟩⟩
theorem GAp.or {s t : Nat} {A B C : World} {L : Nat → Bool} {w : World} (h : GAp s t A B C L w) : w = A ∨ w = B ∨ w = C := by
  cases hs : L s with
  | false => exact .inl (h.1 hs)
  | true =>
    cases ht : L t with
    | false => exact .inr (.inl (h.2.2 hs ht))
    | true => exact .inr (.inr (h.2.1 ht).2)
end Go.Proofs.YtbpkclopcoaikaaGreatDoor
namespace Go.Proofs.YtbpkclopcoaikaaGreatDoor
set_option linter.unusedVariables false
set_option linter.unusedSimpArgs false
/-- The number of steps up, with fuel. -/
def dep (p : List Int) : Nat → Nat → Nat
  | 0, _ => 0
  | f + 1, i => match p[i]? with
    | none => 0
    | some x => if x < 0 then 0 else dep p f x.toNat + 1
/-- The way up from i ends within so many steps. -/
def ends (p : List Int) : Nat → Nat → Prop
  | 0, _ => False
  | f + 1, i => ∀ x, p[i]? = some x → x < 0 ∨ ends p f x.toNat
theorem ends_mono (p : List Int) : ∀ {f i : Nat}, ends p f i → ends p (f + 1) i
  | 0, _, h => h.elim
  | f + 1, i, h => fun x hx => (h x hx).imp id (fun q => ends_mono p q)
theorem ends_le (p : List Int) {f g i : Nat} (h : ends p f i) (hg : f ≤ g) : ends p g i := by
  induction g with
  | zero => obtain rfl : f = 0 := by omega
            exact h
  | succ g ih =>
    rcases Nat.lt_or_ge g f with h1 | h1
    · obtain rfl : f = g + 1 := by omega
      exact h
    · exact ends_mono p (ih h1)
theorem dep_more (p : List Int) : ∀ {f i : Nat}, ends p f i → dep p (f + 1) i = dep p f i
  | 0, _, h => h.elim
  | f + 1, i, h => by
    rw [dep, dep]
    cases hx : p[i]? with
    | none => rfl
    | some x =>
      simp only []
      by_cases hx0 : x < 0
      · rw [if_pos hx0, if_pos hx0]
      · rw [if_neg hx0, if_neg hx0, dep_more p ((h x hx).resolve_left hx0)]
theorem forest_of {p : List Int} (hr : ∀ (i : Nat) (x : Int), p[i]? = some x → -1 ≤ x ∧ x < p.length) (he : ∀ i, i < p.length → ends p p.length i) : Forest p (dep p p.length) := by
  refine ⟨hr, ?_, ?_⟩
  · intro i x hx h0
    have hn : 0 < p.length := by have := (List.getElem?_eq_some_iff.1 hx).1; omega
    obtain ⟨n, hn⟩ : ∃ n, p.length = n + 1 := ⟨p.length - 1, by omega⟩
    rw [hn, dep, hx]
    simp only []
    rw [if_pos h0]
  · intro k i hk
    have hi := hk.lt
    obtain ⟨n, hn⟩ : ∃ n, p.length = n + 1 := ⟨p.length - 1, by omega⟩
    have h1 := he i hi
    rw [hn] at h1
    have h2 : ends p n k := by
      have := (h1 _ hk).resolve_left (by omega)
      rwa [Int.toNat_natCast] at this
    unfold Par at hk
    rw [hn, dep, hk]
    simp only []
    rw [if_neg (by omega), Int.toNat_natCast, dep_more p h2]
/-- Parents stand before their children. -/
theorem forest_lt {p : List Int} (h : ∀ (i : Nat) (x : Int), p[i]? = some x → -1 ≤ x ∧ x < i) : Forest p (dep p p.length) := by
  have he : ∀ n i, i < n → ends p n i := by
    intro n
    induction n with
    | zero => intro i hi; omega
    | succ n ih =>
      intro i hi x hx
      rcases (show x < 0 ∨ 0 ≤ x by omega) with h0 | h0
      · exact .inl h0
      · exact .inr (ih _ (by have := (h i x hx).2; omega))
  refine forest_of (fun i x hx => ⟨(h i x hx).1, ?_⟩) (fun i hi => he _ i hi)
  have := (h i x hx).2
  have := (List.getElem?_eq_some_iff.1 hx).1
  omega
/-! ### Forests without cycles -/
def upN (p : List Int) : Nat → Nat → Option Nat
  | 0, i => some i
  | n + 1, i => match p[i]? with
    | none => none
    | some x => if x < 0 then none else upN p n x.toNat
theorem upN_add (p : List Int) : ∀ (m n i j : Nat), upN p m i = some j → upN p (m + n) i = upN p n j
  | 0, n, i, j, h => by simp [upN] at h; subst h; rw [Nat.zero_add]
  | m + 1, n, i, j, h => by
    rw [show m + 1 + n = (m + n) + 1 by omega]
    unfold upN at h
    rw [upN]
    cases hx : p[i]? with
    | none => rw [hx] at h; cases h
    | some x =>
      rw [hx] at h
      simp only [] at h ⊢
      by_cases h0 : x < 0
      · rw [if_pos h0] at h; cases h
      · rw [if_neg h0] at h ⊢
        exact upN_add p m n _ j h
theorem upN_lt (p : List Int) (hr : ∀ (i : Nat) (x : Int), p[i]? = some x → -1 ≤ x ∧ x < p.length) : ∀ (n i j : Nat), i < p.length → upN p n i = some j → j < p.length
  | 0, i, j, hi, h => by simp [upN] at h; omega
  | n + 1, i, j, hi, h => by
    unfold upN at h
    cases hx : p[i]? with
    | none => rw [hx] at h; cases h
    | some x =>
      rw [hx] at h
      simp only [] at h
      by_cases h0 : x < 0
      · rw [if_pos h0] at h; cases h
      · rw [if_neg h0] at h
        exact upN_lt p hr n _ j (by have := (hr i x hx).2; omega) h
theorem upN_pre (p : List Int) : ∀ (m n i j : Nat), upN p (m + n) i = some j → ∃ k, upN p m i = some k
  | 0, n, i, j, h => ⟨i, rfl⟩
  | m + 1, n, i, j, h => by
    rw [show m + 1 + n = (m + n) + 1 by omega] at h
    unfold upN at h ⊢
    cases hx : p[i]? with
    | none => rw [hx] at h; cases h
    | some x =>
      rw [hx] at h
      simp only [] at h ⊢
      by_cases h0 : x < 0
      · rw [if_pos h0] at h; cases h
      · rw [if_neg h0] at h ⊢
        exact upN_pre p m n _ j h
theorem ends_or (p : List Int) : ∀ (n i : Nat), ends p n i ∨ ∃ j, upN p n i = some j
  | 0, i => .inr ⟨i, rfl⟩
  | n + 1, i => by
    unfold ends upN
    cases hx : p[i]? with
    | none => exact .inl (fun x h => by cases h)
    | some x =>
      simp only []
      by_cases h0 : x < 0
      · exact .inl (fun y h => by injection h with h; subst h; exact .inl h0)
      · rw [if_neg h0]
        rcases ends_or p n x.toNat with h | h
        · exact .inl (fun y hy => by injection hy with hy; subst hy; exact .inr h)
        · exact .inr h
theorem pigeon : ∀ (n : Nat) (f : Nat → Nat), (∀ k, k ≤ n → f k < n) → ∃ a b, a < b ∧ b ≤ n ∧ f a = f b
  | 0, f, h => absurd (h 0 (Nat.le_refl _)) (by omega)
  | n + 1, f, h => by
    by_cases hx : ∃ a, a ≤ n ∧ f a = f (n + 1)
    · obtain ⟨a, h1, h2⟩ := hx
      exact ⟨a, n + 1, by omega, Nat.le_refl _, h2⟩
    · have hne : ∀ a, a ≤ n → f a ≠ f (n + 1) := fun a ha e => hx ⟨a, ha, e⟩
      obtain ⟨a, b, h1, h2, h3⟩ := pigeon n (fun k => if f k = n then f (n + 1) else f k) (fun k hk => by
        have h1 := h k (by omega)
        have h2 := h (n + 1) (Nat.le_refl _)
        split
        · have := hne k hk; omega
        · omega)
      refine ⟨a, b, h1, by omega, ?_⟩
      have ha := hne a (by omega)
      have hb := hne b h2
      split at h3 <;> split at h3 <;> omega
/-- No way leads back: a forest. -/
theorem forest_acyc {p : List Int} (hr : ∀ (i : Nat) (x : Int), p[i]? = some x → -1 ≤ x ∧ x < p.length) (hc : ∀ i, i < p.length → ∀ m, 0 < m → m ≤ p.length → upN p m i ≠ some i) : Forest p (dep p p.length) := by
  refine forest_of hr fun i hi => ?_
  rcases ends_or p p.length i with h | ⟨j, hj⟩
  · exact h
  · exfalso
    have hw : ∀ k, k ≤ p.length → ∃ v, upN p k i = some v := fun k hk => upN_pre p k (p.length - k) i j (by rw [show k + (p.length - k) = p.length by omega]; exact hj)
    obtain ⟨a, b, hab, hb, he⟩ := pigeon p.length (fun k => (upN p k i).getD 0) (fun k hk => by
      obtain ⟨v, hv⟩ := hw k hk
      simp only [hv, Option.getD_some]
      exact upN_lt p hr k i v hi hv)
    obtain ⟨u, hu⟩ := hw a (by omega)
    obtain ⟨v, hv⟩ := hw b hb
    simp only [hu, hv, Option.getD_some] at he
    subst he
    have := upN_add p a (b - a) i u hu
    rw [show a + (b - a) = b by omega, hv] at this
    exact hc u (upN_lt p hr a i u hi hu) (b - a) (by omega) (by omega) this.symm
/-! ### Forests in preorder -/
/-- Each parent is the node before or above it. -/
def Preo (p : List Int) : Prop := ∀ (i : Nat) (x : Int), p[i]? = some x → x = -1 ∨ ∃ k j : Nat, x = (k : Int) ∧ i = j + 1 ∧ AncS p k j
section
variable {p : List Int} {r : Nat → Nat}
theorem anc_lt_of (h : ∀ (i : Nat) (x : Int), p[i]? = some x → x < i) {k i : Nat} (ha : Anc p k i) : k < i := by
  induction ha with
  | one hk => have := h _ _ hk; omega
  | up hk _ ih => have := h _ _ hk; omega
theorem preo_lt (hp : Preo p) : ∀ (n i : Nat) (x : Int), i < n → p[i]? = some x → -1 ≤ x ∧ x < i
  | 0, i, x, hi, _ => absurd hi (by omega)
  | n + 1, i, x, hi, hx => by
    rcases hp i x hx with rfl | ⟨k, j, rfl, rfl, h⟩
    · omega
    · refine ⟨by omega, ?_⟩
      rcases h with rfl | h
      · omega
      · have hs : ∀ {a b : Nat}, Anc p a b → b ≤ j → a < b := fun {a b} hab => by
          induction hab with
          | one hk => intro hb; have := preo_lt hp n _ _ (by omega) hk; omega
          | up hk _ ih =>
            intro hb
            have h1 := preo_lt hp n _ _ (by omega) hk
            have h2 := ih (by omega)
            omega
        have := hs h (Nat.le_refl _)
        omega
theorem preo_forest (hp : Preo p) : Forest p (dep p p.length) := forest_lt fun i x hx => preo_lt hp (i + 1) i x (by omega) hx
/-- What stands behind a later sister is not below an earlier one. -/
theorem preo_sister (hp : Preo p) {t t' : Nat} (hlt : t < t') (hs : ¬ Anc p t t') : ∀ x, t' ≤ x → ¬ Anc p t x := by
  intro x hx
  induction x with
  | zero => intro h; have := h.lt; omega
  | succ x ih =>
    intro h
    rcases Nat.lt_or_ge x t' with h1 | h1
    · obtain rfl : t' = x + 1 := by omega
      exact hs h
    · have ihx := ih h1
      have key : ∀ {j : Nat}, Par p j (x + 1) → AncS p j x := fun {j} hj => by
        rcases hp _ _ hj with e | ⟨k, m, e1, e2, e3⟩
        · omega
        · obtain rfl : m = x := by omega
          obtain rfl : k = j := by omega
          exact e3
      cases h with
      | one hk =>
        rcases key hk with e | e
        · omega
        · exact ihx e
      | up hk ha =>
        rcases key hk with e | e
        · subst e; exact ihx ha
        · exact ihx (ha.trans e)
end
end Go.Proofs.YtbpkclopcoaikaaGreatDoor
namespace Go.Proofs.YtbpkclopcoaikaaGreatDoor
set_option linter.unusedVariables false
set_option linter.unusedSimpArgs false
section
variable {p : List Int} {r : Nat → Nat}
theorem preo_anc_lt (hp : Preo p) {k i : Nat} (h : Anc p k i) : k < i := anc_lt_of (fun i x hx => (preo_lt hp (i + 1) i x (by omega) hx).2) h
theorem ancS_le (hp : Preo p) {k i : Nat} (h : AncS p k i) : k ≤ i := by
  rcases h with rfl | h
  · exact Nat.le_refl _
  · exact Nat.le_of_lt (preo_anc_lt hp h)
/-- What is below an earlier sister stands before the later one. -/
theorem below_lt (hp : Preo p) {t t' x : Nat} (hlt : t < t') (hs : ¬ Anc p t t') (hx : AncS p t x) : x < t' := by
  rcases hx with rfl | hx
  · exact hlt
  · rcases Nat.lt_or_ge x t' with h | h
    · exact h
    · exact absurd hx (preo_sister hp hlt hs x h)
theorem bef_trees (hp : Preo p) (hF : Forest p r) {f : Nat} {ts : List Nat} (hs : ∀ t ∈ ts, Enough p r f t) (hm : ∀ t ∈ ts, ∀ x y, Bef (preL p f t) x y → x < y) (hn : ts.Pairwise (· < ·)) (ha : ∀ t ∈ ts, ∀ t' ∈ ts, ¬ Anc p t t') : ∀ x y, Bef (ts.flatMap (preL p f)) x y → x < y := by
  intro x y hb
  rcases bef_flat.1 hb with ⟨t, ht, h⟩ | ⟨t, t', hb', hx, hy⟩
  · exact hm t ht x y h
  · have hlt := bef_pair hn hb'
    obtain ⟨ht, ht'⟩ := hb'.mem
    have h1 := below_lt hp hlt (ha t ht t' ht') ((mem_pre hF f t (hs t ht) x).1 hx)
    have h2 := ancS_le hp ((mem_pre hF f t' (hs t' ht') y).1 hy)
    omega
theorem bef_tree (hp : Preo p) (hF : Forest p r) : ∀ (f i : Nat), Enough p r f i → ∀ x y, Bef (preL p f i) x y → x < y
  | 0, i, h => absurd h.pos (by omega)
  | f + 1, i, h => by
    have hs : ∀ t ∈ chil p i, Enough p r f t := fun t ht => h.child hF (mem_chil.1 ht)
    intro x y hb
    unfold preL at hb
    rcases hb with ⟨rfl, hy⟩ | hb
    · obtain ⟨k, hk, hy⟩ := List.mem_flatMap.1 hy
      exact preo_anc_lt hp (Anc.down.2 ⟨k, mem_chil.1 hk, ((mem_pre hF f k (hs k hk) y).1 hy).imp Eq.symm id⟩)
    · refine bef_trees hp hF hs (fun t ht => bef_tree hp hF f t (hs t ht)) (chil_lt i) (fun t ht t' ht' h' => ?_) x y hb
      have h1 := hF.step _ _ (mem_chil.1 ht)
      have h2 := hF.step _ _ (mem_chil.1 ht')
      have := h'.rank hF
      omega
theorem bef_PRE (hp : Preo p) (hF : Forest p r) : ∀ x y, Bef (PRE p (fuelF p r)) x y → x < y :=
  bef_trees hp hF (roots_ok hF) (fun t ht => bef_tree hp hF _ t (roots_ok hF t ht)) roots_lt (fun t ht t' ht' h => by
    obtain ⟨y, h1, h2⟩ := mem_roots.1 ht'
    have := hF.root _ _ h1 h2
    have := h.rank hF
    omega)
theorem pairwise_bef : ∀ {l : List Nat}, (∀ x y, Bef l x y → x < y) → l.Pairwise (· < ·)
  | [], _ => .nil
  | a :: l, h => .cons (fun y hy => h a y (.inl ⟨rfl, hy⟩)) (pairwise_bef fun x y hb => h x y (.inr hb))
/-- A forest in preorder is numbered by its places. -/
theorem preN_preo (hp : Preo p) (hF : Forest p r) {i : Nat} (hi : i < p.length) : preN p r i = i := by
  have hs := pairwise_bef (bef_PRE hp hF)
  have he : PRE p (fuelF p r) = List.range p.length := by
    refine List.Perm.eq_of_pairwise (le := (· < ·)) (fun a b _ _ h1 h2 => by omega) hs (range_lt _) ?_
    rw [List.perm_ext_iff_of_nodup (nodup_PRE hF (roots_ok hF)) List.nodup_range]
    intro a
    rw [mem_PRE hF (roots_ok hF), List.mem_range]
  unfold preN
  rw [he]
  have := List.Nodup.idxOf_getElem (List.nodup_range (n := p.length)) i (by rw [List.length_range]; exact hi)
  simpa using this
/-- Two nodes of which none is above the other: sisters lead to them. -/
theorem lca (hF : Forest p r) : ∀ (n k i : Nat), r k + r i ≤ n → k < p.length → i < p.length → k ≠ i → ¬ Anc p k i → ¬ Anc p i k → ∃ t t', t ≠ t' ∧ p[t]? = p[t']? ∧ AncS p t k ∧ AncS p t' i := by
  intro n
  have par : ∀ {k : Nat}, k < p.length → 0 < r k → ∃ j, Par p j k := fun {k} hk h0 => by
    refine ⟨p[k].toNat, ?_⟩
    have hx := List.getElem?_eq_getElem hk
    rcases (show p[k] < 0 ∨ 0 ≤ p[k] by omega) with h | h
    · have := hF.root _ _ hx h; omega
    · unfold Par; rw [hx, Int.toNat_of_nonneg h]
  have up : ∀ {t j k : Nat}, AncS p t j → Par p j k → AncS p t k := fun {t j k} h hk => by
    rcases h with rfl | h
    · exact .inr (.one hk)
    · exact .inr (.up hk h)
  induction n with
  | zero =>
    intro k i hn hk hi hne h1 h2
    have z : ∀ {k : Nat}, k < p.length → r k = 0 → p[k]? = some (-1) := fun {k} hk h0 => by
      have hx := List.getElem?_eq_getElem hk
      rcases (show p[k] < 0 ∨ 0 ≤ p[k] by omega) with h | h
      · have := (hF.rng _ _ hx).1
        rw [hx]; congr 1; omega
      · have := hF.step p[k].toNat k (by unfold Par; rw [hx, Int.toNat_of_nonneg h]); omega
    exact ⟨k, i, hne, by rw [z hk (by omega), z hi (by omega)], .inl rfl, .inl rfl⟩
  | succ n ih =>
    intro k i hn hk hi hne h1 h2
    rcases Nat.lt_trichotomy (r k) (r i) with hl | hl | hl
    · obtain ⟨j, hj⟩ := par hi (by omega)
      have hs := hF.step _ _ hj
      obtain ⟨t, t', a, b, c, d⟩ := ih k j (by omega) hk (hj.ltk hF) (by rintro rfl; exact h1 (.one hj)) (fun h => h1 (.up hj h)) (fun h => by have := h.rank hF; omega)
      exact ⟨t, t', a, b, c, up d hj⟩
    · by_cases h0 : r k = 0
      · have z : ∀ {k : Nat}, k < p.length → r k = 0 → p[k]? = some (-1) := fun {k} hk h0 => by
          have hx := List.getElem?_eq_getElem hk
          rcases (show p[k] < 0 ∨ 0 ≤ p[k] by omega) with h | h
          · have := (hF.rng _ _ hx).1
            rw [hx]; congr 1; omega
          · have := hF.step p[k].toNat k (by unfold Par; rw [hx, Int.toNat_of_nonneg h]); omega
        exact ⟨k, i, hne, by rw [z hk h0, z hi (by omega)], .inl rfl, .inl rfl⟩
      · obtain ⟨a, ha⟩ := par hk (by omega)
        obtain ⟨b, hb⟩ := par hi (by omega)
        have hsa := hF.step _ _ ha
        have hsb := hF.step _ _ hb
        by_cases hab : a = b
        · subst hab
          exact ⟨k, i, hne, by unfold Par at ha hb; rw [ha, hb], .inl rfl, .inl rfl⟩
        · obtain ⟨t, t', q, b', c, d⟩ := ih a b (by omega) (ha.ltk hF) (hb.ltk hF) hab (fun h => by have := h.rank hF; omega) (fun h => by have := h.rank hF; omega)
          exact ⟨t, t', q, b', up c ha, up d hb⟩
    · obtain ⟨j, hj⟩ := par hk (by omega)
      have hs := hF.step _ _ hj
      obtain ⟨t, t', a, b, c, d⟩ := ih j i (by omega) (hj.ltk hF) hi (by rintro rfl; exact h2 (.one hj)) (fun h => by have := h.rank hF; omega) (fun h => h2 (.up hj h))
      exact ⟨t, t', a, b, up c hj, d⟩
/-- Intervals of nodes: within their parents, sisters one after the other. -/
structure Ivl (p : List Int) (B E : Nat → Int) : Prop where
  preo : Preo p
  ne : ∀ i, i < p.length → B i < E i
  inn : ∀ k i, Par p k i → B k ≤ B i ∧ E i ≤ E k
  sis : ∀ s i, s < i → i < p.length → p[s]? = p[i]? → (∀ m, s < m → m < i → p[m]? ≠ p[i]?) → E s ≤ B i
theorem Ivl.sisters {B E : Nat → Int} (h : Ivl p B E) : ∀ (n s i : Nat), i - s ≤ n → s < i → i < p.length → p[s]? = p[i]? → E s ≤ B i
  | 0, s, i, hn, hsi, _, _ => by omega
  | n + 1, s, i, hn, hsi, hi, he => by
    by_cases hx : ∃ m, s < m ∧ m < i ∧ p[m]? = p[i]?
    · obtain ⟨m, h1, h2, h3⟩ := hx
      have a := Ivl.sisters h n m i (by omega) h2 hi h3
      have b := Ivl.sisters h n s m (by omega) h1 (by omega) (he.trans h3.symm)
      have := h.ne m (by omega)
      omega
    · exact h.sis s i hsi hi he (fun m h1 h2 h3 => hx ⟨m, h1, h2, h3⟩)
theorem Ivl.nest {B E : Nat → Int} (h : Ivl p B E) {k i : Nat} (ha : Anc p k i) : B k ≤ B i ∧ E i ≤ E k := by
  induction ha with
  | one hk => exact h.inn _ _ hk
  | up hk _ ih => have := h.inn _ _ hk; omega
theorem Ivl.nestS {B E : Nat → Int} (h : Ivl p B E) {k i : Nat} (ha : AncS p k i) : B k ≤ B i ∧ E i ≤ E k := by
  rcases ha with rfl | ha
  · exact ⟨Int.le_refl _, Int.le_refl _⟩
  · exact h.nest ha
/-- Nodes that do not contain each other stand one after the other. -/
theorem Ivl.after {B E : Nat → Int} (h : Ivl p B E) {k i : Nat} (hki : k < i) (hi : i < p.length) (ha : ¬ Anc p k i) : E k ≤ B i := by
  have hF := preo_forest h.preo
  obtain ⟨t, t', h1, h2, h3, h4⟩ := lca hF _ k i (Nat.le_refl _) (by omega) hi (by omega) ha (fun h' => by have := preo_anc_lt h.preo h'; omega)
  have n1 := h.nestS h3
  have n2 := h.nestS h4
  have ns : ∀ {a b : Nat}, p[a]? = p[b]? → ¬ Anc p a b := fun {a b} he hab => by
    have hb := hab.lt
    have hr := hab.rank hF
    rcases (show p[b] < 0 ∨ 0 ≤ p[b] by omega) with h0 | h0
    · have := hF.root b _ (List.getElem?_eq_getElem hb) h0; omega
    · have q : Par p p[b].toNat b := by unfold Par; rw [List.getElem?_eq_getElem hb, Int.toNat_of_nonneg h0]
      have q' : Par p p[b].toNat a := by unfold Par at q ⊢; rw [he]; exact q
      have := hF.step _ _ q
      have := hF.step _ _ q'
      omega
  have ht' : t' < p.length := by
    rcases h4 with rfl | h4
    · exact hi
    · exact h4.ltk hF
  rcases Nat.lt_trichotomy t t' with hl | hl | hl
  · have := Ivl.sisters h _ t t' (Nat.le_refl _) hl ht' h2
    omega
  · exact absurd hl h1
  · have := below_lt h.preo hl (ns h2.symm) h4
    have := ancS_le h.preo h3
    omega
/-- The last node that contains a token: just what is above it, and it, contains the token. -/
theorem Ivl.holds {B E : Nat → Int} (h : Ivl p B E) {a : Int} {x j : Nat} (hx : x < p.length) (hxa : B x ≤ a ∧ a < E x) (hl : ∀ m, x < m → m < p.length → ¬ (B m ≤ a ∧ a < E m)) (hj : j < p.length) : (B j ≤ a ∧ a < E j) ↔ AncS p j x := by
  constructor
  · intro hc
    rcases Nat.lt_trichotomy j x with h1 | h1 | h1
    · by_cases ha : Anc p j x
      · exact .inr ha
      · have := h.after h1 hx ha; omega
    · exact .inl h1
    · exact absurd hc (hl j h1 hj)
  · intro hc
    have := h.nestS hc
    omega
end
end Go.Proofs.YtbpkclopcoaikaaGreatDoor
namespace Go.Proofs.YtbpkclopcoaikaaGreatDoor
set_option linter.unusedVariables false
section
variable {p : List Int} {r : Nat → Nat}
theorem preN_lt (hF : Forest p r) {i : Nat} (hi : i < p.length) : preN p r i < p.length := by
  have h := List.idxOf_lt_length_iff.2 ((mem_PRE hF (roots_ok hF) i).2 hi)
  have hl : (PRE p (fuelF p r)).length = p.length := by
    have h : (PRE p (fuelF p r)).Perm (List.range p.length) := by
      rw [List.perm_ext_iff_of_nodup (nodup_PRE hF (roots_ok hF)) List.nodup_range]
      intro a
      rw [mem_PRE hF (roots_ok hF), List.mem_range]
    rw [h.length_eq, List.length_range]
  unfold preN
  omega
theorem PRE_at (hF : Forest p r) {i : Nat} (hi : i < p.length) : (PRE p (fuelF p r))[preN p r i]? = some i := by
  have h := List.idxOf_lt_length_iff.2 ((mem_PRE hF (roots_ok hF) i).2 hi)
  unfold preN
  rw [List.getElem?_eq_getElem h, List.getElem_idxOf]
theorem preN_at (hF : Forest p r) {q i : Nat} (h : (PRE p (fuelF p r))[q]? = some i) : i < p.length ∧ preN p r i = q := by
  have hm := List.mem_of_getElem? h
  have hi := (mem_PRE hF (roots_ok hF) i).1 hm
  refine ⟨hi, ?_⟩
  obtain ⟨h1, h2⟩ := List.getElem?_eq_some_iff.1 h
  obtain ⟨h3, h4⟩ := List.getElem?_eq_some_iff.1 (PRE_at hF hi)
  exact (List.getElem_inj (nodup_PRE hF (roots_ok hF))).1 (h4.trans h2.symm)
/-- A way from a root downwards. -/
structure Stk (p : List Int) (r : Nat → Nat) (st : List Nat) (j : Nat) : Prop where
  ch : ∀ (t k i : Nat), st[t]? = some k → st[t + 1]? = some i → Par p k i
  bot : ∀ i : Nat, st[0]? = some i → ∀ k, ¬ Par p k i
  lt : ∀ a ∈ st, a < p.length ∧ preN p r a < j
  len : st.length ≤ j
theorem Stk.nil (p : List Int) (r : Nat → Nat) (j : Nat) : Stk p r [] j := ⟨fun t k i h => by simp at h, fun i h => by simp at h, fun a h => by simp at h, by simp⟩
theorem Stk.anc {st : List Nat} {j : Nat} (h : Stk p r st j) : ∀ (d t a b : Nat), st[t]? = some a → st[t + d]? = some b → AncS p a b
  | 0, t, a, b, ha, hb => by
    rw [Nat.add_zero, ha] at hb
    injection hb with hb
    exact .inl hb
  | d + 1, t, a, b, ha, hb => by
    have hl : t + d < st.length := by have := (List.getElem?_eq_some_iff.1 hb).1; omega
    have hc : st[t + d]? = some st[t + d] := List.getElem?_eq_getElem hl
    have h1 := h.anc d t a _ ha hc
    have h2 := h.ch (t + d) _ b hc hb
    rcases h1 with h1 | h1
    · rw [← h1] at h2; exact .inr (.one h2)
    · exact .inr (.up h2 h1)
theorem Stk.closed {st : List Nat} {j : Nat} (h : Stk p r st j) {b a : Nat} (hb : b ∈ st) (ha : AncS p a b) : a ∈ st := by
  rcases ha with rfl | ha
  · exact hb
  · induction ha with
    | @one i hp =>
      obtain ⟨t, ht, e⟩ := List.getElem_of_mem hb
      have e' : st[t]? = some i := by rw [List.getElem?_eq_getElem ht, e]
      cases t with
      | zero => exact absurd hp (h.bot _ e' _)
      | succ t =>
        have hc : st[t]? = some st[t] := List.getElem?_eq_getElem (by omega)
        have := h.ch t _ _ hc e'
        rw [hp.uniq this]
        exact List.mem_of_getElem? hc
    | @up m i hp _ ih =>
      apply ih
      obtain ⟨t, ht, e⟩ := List.getElem_of_mem hb
      have e' : st[t]? = some i := by rw [List.getElem?_eq_getElem ht, e]
      cases t with
      | zero => exact absurd hp (h.bot _ e' _)
      | succ t =>
        have hc : st[t]? = some st[t] := List.getElem?_eq_getElem (by omega)
        have := h.ch t _ _ hc e'
        rw [hp.uniq this]
        exact List.mem_of_getElem? hc
theorem Stk.pop {st : List Nat} {j : Nat} (h : Stk p r st j) : Stk p r st.dropLast j := by
  have key : ∀ (t x : Nat), st.dropLast[t]? = some x → st[t]? = some x := fun t x hx => by
    rw [List.getElem?_dropLast] at hx
    split at hx
    · exact hx
    · cases hx
  exact ⟨fun t k i h1 h2 => h.ch t k i (key _ _ h1) (key _ _ h2), fun i h1 => h.bot i (key _ _ h1), fun a ha => h.lt a (List.dropLast_subset _ ha), by have := h.len; rw [List.length_dropLast]; omega⟩
theorem Stk.mono {st : List Nat} {j k : Nat} (h : Stk p r st j) (hk : j ≤ k) : Stk p r st k := ⟨h.ch, h.bot, fun a ha => ⟨(h.lt a ha).1, by have := (h.lt a ha).2; omega⟩, by have := h.len; omega⟩
/-- What is left on the stack when the next node's parent has been reached. -/
theorem Stk.top {st : List Nat} {j i t : Nat} (hF : Forest p r) (h : Stk p r st j) (hi : i < p.length) (hj : preN p r i = j) (hq : ∀ q, Par p q i → q ∈ st) (ht : st.getLast? = some t) (hp : ¬ postN p r t < postN p r i) : Par p t i := by
  have hm : t ∈ st := List.mem_of_getLast? ht
  obtain ⟨h1, h2⟩ := h.lt t hm
  rcases told_nums hF hi h1 (by omega) with ⟨ha, _⟩ | ⟨_, _, h3⟩
  · obtain ⟨q, hqi, htq⟩ : ∃ q, Par p q i ∧ AncS p t q := by
      cases ha with
      | one h => exact ⟨t, h, .inl rfl⟩
      | up h h' => exact ⟨_, h, .inr h'⟩
    rcases htq with rfl | htq
    · exact hqi
    · exfalso
      obtain ⟨s, hs, e⟩ := List.getElem_of_mem (hq q hqi)
      rw [List.getLast?_eq_getElem?] at ht
      have hsl : st[s]? = some q := by rw [List.getElem?_eq_getElem hs, e]
      have := h.anc (st.length - 1 - s) s q t hsl (by rw [show s + (st.length - 1 - s) = st.length - 1 by omega]; exact ht)
      rcases this with rfl | this
      · exact htq.irr hF
      · exact htq.asymm hF this
  · omega
/-- A node that is taken off is not the next node's parent. -/
theorem Stk.popq {st : List Nat} {j i t : Nat} (hF : Forest p r) (h : Stk p r st j) (hi : i < p.length) (hj : preN p r i = j) (hq : ∀ q, Par p q i → q ∈ st) (ht : st.getLast? = some t) (hp : postN p r t < postN p r i) : ∀ q, Par p q i → q ∈ st.dropLast := by
  intro q hpq
  have hm := hq q hpq
  have hne : st ≠ [] := fun e => by rw [e] at hm; simp at hm
  have hl : st.getLast hne = t := by
    rw [List.getLast?_eq_some_getLast hne] at ht
    injection ht
  rw [← List.dropLast_concat_getLast hne, List.mem_append] at hm
  rcases hm with hm | hm
  · exact hm
  · simp at hm
    rw [hl] at hm
    subst hm
    have := (dom_iff hF hi (Par.ltk hF hpq)).2 (.one hpq)
    omega
/-- The next node is laid on its parent. -/
theorem Stk.push {st : List Nat} {j i : Nat} (h : Stk p r st j) (hi : i < p.length) (hj : preN p r i = j) (hpar : ∀ q, Par p q i ↔ st.getLast? = some q) : Stk p r (st ++ [i]) (j + 1) := by
  refine ⟨fun t k x h1 h2 => ?_, fun x h1 => ?_, fun a ha => ?_, by have := h.len; simp; omega⟩
  · rcases Nat.lt_trichotomy (t + 1) st.length with hl | hl | hl
    · rw [List.getElem?_append_left (by omega)] at h1 h2
      exact h.ch t k x h1 h2
    · rw [List.getElem?_append_left (by omega)] at h1
      rw [List.getElem?_append_right (by omega), hl, Nat.sub_self] at h2
      injection h2 with h2
      subst h2
      rw [hpar, List.getLast?_eq_getElem?, ← hl]
      exact h1
    · have := (List.getElem?_eq_some_iff.1 h2).1
      simp at this
      omega
  · cases st with
    | nil =>
      simp at h1
      subst h1
      intro k hk
      have := (hpar k).1 hk
      simp at this
    | cons y ys =>
      simp at h1
      exact h.bot x (by simp [h1])
  · rw [List.mem_append] at ha
    rcases ha with ha | ha
    · have := h.lt a ha; omega
    · simp at ha; subst ha; omega
theorem Stk.all {st : List Nat} {j i : Nat} (h : Stk p r (st ++ [i]) j) : ∀ a, AncS p a i → a ∈ st ++ [i] := fun a ha => h.closed (by simp) ha
/-- The next node's parent is on the stack. -/
theorem Stk.parent {st : List Nat} {j i : Nat} (hF : Forest p r) (hi : i < p.length) (hj : preN p r i = j) (hl : ∀ x, x < p.length → preN p r x + 1 = j → ∀ a, AncS p a x → a ∈ st) : ∀ q, Par p q i → q ∈ st := by
  intro q hq
  have hqn := Par.ltk hF hq
  have h1 := (dom_iff hF hi hqn).2 (.one hq)
  obtain ⟨x, hx⟩ : ∃ x, (PRE p (fuelF p r))[j - 1]? = some x := by
    have := (List.getElem?_eq_some_iff.1 (PRE_at hF hi)).1
    exact ⟨_, List.getElem?_eq_getElem (by omega)⟩
  obtain ⟨hxn, hxj⟩ := preN_at hF hx
  refine hl x hxn (by omega) q ?_
  by_cases e : q = x
  · exact .inl e
  · have hqx : preN p r q < preN p r x := by
      rcases Nat.lt_trichotomy (preN p r q) (preN p r x) with h | h | h
      · exact h
      · exact absurd (preN_inj hF hqn hxn h) e
      · omega
    rcases told_nums hF hxn hqn hqx with ⟨h, _⟩ | ⟨_, _, h3⟩
    · exact .inr h
    · rcases told_nums hF hi hxn (by omega) with ⟨h4, _⟩ | ⟨_, _, h5⟩
      · cases h4 with
        | one h4 => exact absurd (hq.uniq h4) e
        | up h6 h7 =>
          rw [← hq.uniq h6] at h7
          have := anc_pre hF h7
          omega
      · omega
/-- What is stored as the parent. -/
def topI (st : List Nat) : Int := match st.getLast? with
  | some t => (t : Int)
  | none => -1
theorem Stk.topI_eq {st : List Nat} {j i : Nat} (hF : Forest p r) (h : Stk p r st j) (hi : i < p.length) (hj : preN p r i = j) (hq : ∀ q, Par p q i → q ∈ st) (hp : ∀ t, st.getLast? = some t → ¬ postN p r t < postN p r i) : p[i]? = some (topI st) ∧ ∀ q, Par p q i ↔ st.getLast? = some q := by
  unfold topI
  cases ht : st.getLast? with
  | none =>
    have e : st = [] := List.getLast?_eq_none_iff.1 ht
    subst e
    have hx : p[i]? = some p[i] := List.getElem?_eq_getElem hi
    have hr := hF.rng i _ hx
    have hno : ∀ q, ¬ Par p q i := fun q hpq => by have := hq q hpq; simp at this
    refine ⟨?_, fun q => ⟨fun h => absurd h (hno q), fun h => by simp at h⟩⟩
    show p[i]? = some (-1)
    rw [hx]
    by_cases h0 : p[i] < 0
    · congr 1; omega
    · obtain ⟨k, hk⟩ := Int.eq_ofNat_of_zero_le (show 0 ≤ p[i] by omega)
      exact absurd (show Par p k i by unfold Par; rw [hx, hk]) (hno k)
  | some t =>
    have hpt := h.top hF hi hj hq ht (hp t ht)
    refine ⟨hpt, fun q => ⟨fun h => by rw [hpt.uniq h], fun h => by injection h with h; subst h; exact hpt⟩⟩
end
end Go.Proofs.YtbpkclopcoaikaaGreatDoor
