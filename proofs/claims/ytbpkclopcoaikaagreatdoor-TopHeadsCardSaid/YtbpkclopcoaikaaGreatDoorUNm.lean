/- The values of a corpus and of its parts, and how they are read. -/
import Derived.Test.YtbpkclopcoaikaaGreatDoorMl
namespace Go.Proofs.YtbpkclopcoaikaaGreatDoor
open Go.RowKit
set_option linter.unusedVariables false
set_option linter.unusedSimpArgs false
structure Sl where
  a : Option Addr
  n : Nat
  c : Nat
abbrev Sl.v (s : Sl) : Value := .slice s.a s.n s.c
/-- A corpus: its seven slices. -/
structure Cv where
  A : Sl
  T : Sl
  X : Sl
  R : Sl
  N : Sl
  H : Sl
  L : Sl
abbrev Cv.v (c : Cv) : Value := .agg #[.slice c.A.a c.A.n c.A.c, .slice c.T.a c.T.n c.T.c, .slice c.X.a c.X.n c.X.c, .slice c.R.a c.R.n c.R.c, .slice c.N.a c.N.n c.N.c, .slice c.H.a c.H.n c.H.c, .slice c.L.a c.L.n c.L.c]
/-- The object of a corpus in memory. -/
abbrev Cv.o (c : Cv) : Obj := .cells #[.slice c.A.a c.A.n c.A.c, .slice c.T.a c.T.n c.T.c, .slice c.X.a c.X.n c.X.c, .slice c.R.a c.R.n c.R.c, .slice c.N.a c.N.n c.N.c, .slice c.H.a c.H.n c.H.c, .slice c.L.a c.L.n c.L.c] 30 (0, 0)
/-- The seven cells of a corpus in memory. -/
structure CCells (w : World) (g : Nat) (c : Cv) : Prop where
  c0 : w.cell? ⟨g, 0, none⟩ = some (.slice c.A.a c.A.n c.A.c)
  c1 : w.cell? ⟨g, 1, none⟩ = some (.slice c.T.a c.T.n c.T.c)
  c2 : w.cell? ⟨g, 2, none⟩ = some (.slice c.X.a c.X.n c.X.c)
  c3 : w.cell? ⟨g, 3, none⟩ = some (.slice c.R.a c.R.n c.R.c)
  c4 : w.cell? ⟨g, 4, none⟩ = some (.slice c.N.a c.N.n c.N.c)
  c5 : w.cell? ⟨g, 5, none⟩ = some (.slice c.H.a c.H.n c.H.c)
  c6 : w.cell? ⟨g, 6, none⟩ = some (.slice c.L.a c.L.n c.L.c)
theorem CCells.new (w : World) (c : Cv) : CCells (w.alloc c.o) w.heap.size c := by
  have h := heap_alloc_new w c.o
  exact ⟨cell_of_row _ _ 0 _ _ _ h, cell_of_row _ _ 1 _ _ _ h, cell_of_row _ _ 2 _ _ _ h, cell_of_row _ _ 3 _ _ _ h, cell_of_row _ _ 4 _ _ _ h, cell_of_row _ _ 5 _ _ _ h, cell_of_row _ _ 6 _ _ _ h⟩
theorem CCells.below {w w' : World} {g : Nat} {c : Cv} (h : CCells w g c) (hb : Below w.heap.size w w') : CCells w' g c :=
  ⟨(hb.cell (lt_heap h.c0)).trans h.c0, (hb.cell (lt_heap h.c1)).trans h.c1, (hb.cell (lt_heap h.c2)).trans h.c2, (hb.cell (lt_heap h.c3)).trans h.c3, (hb.cell (lt_heap h.c4)).trans h.c4, (hb.cell (lt_heap h.c5)).trans h.c5, (hb.cell (lt_heap h.c6)).trans h.c6⟩
theorem flat_get {α : Type} {enc : α → List Value} {s : Nat} (hs : ∀ x, (enc x).length = s) : ∀ (l : List α) (k j : Nat) (x : α) (v : Value), l[k]? = some x → (enc x)[j]? = some v → (l.flatMap enc)[k * s + j]? = some v
  | [], k, j, x, v, h, _ => by simp at h
  | y :: l, 0, j, x, v, h, hj => by
    simp at h
    subst h
    rw [List.flatMap_cons, Nat.zero_mul, Nat.zero_add, List.getElem?_append_left (List.getElem?_eq_some_iff.1 hj).1]
    exact hj
  | y :: l, k + 1, j, x, v, h, hj => by
    rw [List.flatMap_cons, List.getElem?_append_right (by rw [hs]; have := Nat.le_mul_of_pos_left s (show 0 < k + 1 by omega); omega), hs, show (k + 1) * s + j - s = k * s + j by rw [Nat.add_mul]; omega]
    exact flat_get hs l k j x v (by simpa using h) hj
theorem flat_len {α : Type} {enc : α → List Value} {s : Nat} (hs : ∀ x, (enc x).length = s) : ∀ (l : List α), (l.flatMap enc).length = l.length * s
  | [] => by simp
  | x :: l => by rw [List.flatMap_cons, List.length_append, hs, flat_len hs l, List.length_cons, Nat.add_mul]; omega
/-- A node of a corpus. -/
structure Nd where
  lab : List UInt8
  b : Int
  e : Int
  p : Int
def encN (x : Nd) : List Value := [.string (bstr x.lab), iv x.b, iv x.e, iv x.p]
def IsN (w : World) (a : Option Addr) (n : Nat) (l : List Nd) : Prop := n = l.length ∧ Rd w a (l.flatMap encN)
theorem IsN.below {w w' : World} {a : Option Addr} {n : Nat} {l : List Nd} (h : IsN w a n l) (hb : Below w.heap.size w w') : IsN w' a n l := ⟨h.1, h.2.below hb⟩
theorem IsN.at_ {w : World} {a : Option Addr} {n : Nat} {l : List Nd} (h : IsN w a n l) {k : Nat} (hk : k < n) :
    ∃ b o x, a = some ⟨b, o, none⟩ ∧ b < w.heap.size ∧ l[k]? = some x ∧ w.cell? ⟨b, o + k * 4, none⟩ = some (.string (bstr x.lab)) ∧ w.cell? ⟨b, o + k * 4 + 1, none⟩ = some (.int .i64 x.b) ∧ w.cell? ⟨b, o + k * 4 + 2, none⟩ = some (.int .i64 x.e) ∧ w.cell? ⟨b, o + k * 4 + 3, none⟩ = some (.int .i64 x.p) := by
  have hc : l[k]? = some (l[k]'(by have := h.1; omega)) := List.getElem?_eq_getElem _
  have hs : ∀ x : Nd, (encN x).length = 4 := fun _ => rfl
  obtain ⟨b, o, ha, hb, e⟩ := h.2.at_ (flat_get hs l k 0 _ _ hc rfl)
  subst ha
  exact ⟨b, o, _, rfl, hb, hc, e, Rd.cells h.2 _ rfl (k * 4 + 1) _ (flat_get hs l k 1 _ _ hc rfl), Rd.cells h.2 _ rfl (k * 4 + 2) _ (flat_get hs l k 2 _ _ hc rfl), Rd.cells h.2 _ rfl (k * 4 + 3) _ (flat_get hs l k 3 _ _ hc rfl)⟩
theorem IsN.cells {w : World} {b o n : Nat} {l : List Nd} (h : IsN w (some ⟨b, o, none⟩) n l) {k : Nat} {x : Nd} (hk : l[k]? = some x) :
    w.cell? ⟨b, o + k * 4, none⟩ = some (.string (bstr x.lab)) ∧ w.cell? ⟨b, o + k * 4 + 1, none⟩ = some (.int .i64 x.b) ∧ w.cell? ⟨b, o + k * 4 + 2, none⟩ = some (.int .i64 x.e) ∧ w.cell? ⟨b, o + k * 4 + 3, none⟩ = some (.int .i64 x.p) := by
  obtain ⟨b', o', x', e, _, hx, h1⟩ := h.at_ (k := k) (by have := (List.getElem?_eq_some_iff.1 hk).1; have := h.1; omega)
  injection e with e
  injection e with e1 e2
  subst e1 e2
  rw [hk] at hx
  injection hx with hx
  subst hx
  exact h1
/-- The heads of a corpus, -1 for all its tokens if it has none. -/
structure IsHd (w : World) (c : Cv) (p : List Int) : Prop where
  len : c.T.n = p.length
  rng : ∀ (i : Nat) (x : Int), p[i]? = some x → -1 ≤ x ∧ x < p.length
  cas : (c.H.n = 0 ∧ p = List.replicate c.T.n (-1)) ∨ IsI w c.H.a c.H.n p
theorem IsHd.below {w w' : World} {c : Cv} {p : List Int} (h : IsHd w c p) (hb : Below w.heap.size w w') : IsHd w' c p := ⟨h.len, h.rng, h.cas.imp (fun h => h) (fun h => h.below hb)⟩
end Go.Proofs.YtbpkclopcoaikaaGreatDoor
