/- Rows of structs of the call's own: reading, storing, cutting; a disk in a block; results that lie in a block. -/
import Derived.Test.YtjpmfiicbokdcaaDlW
import Derived.Laws.ResultCell
namespace Go.Proofs.Ytjpmfiicbokdcaa
open Go.RowKit
set_option linter.unusedVariables false
set_option linter.unusedSimpArgs false
theorem bstr_size (l : List UInt8) : (bstr l).size = l.length := rfl
theorem wrap_ok {x : Int} (h0 : -9223372036854775808 ≤ x) (h1 : x ≤ 9223372036854775807) : IntKind.i64.wrap x = x := by
  rw [IntKind.wrap_i64]; omega
theorem ownG_inv {w : World} {base size n c : Nat} {a : Option Addr} {T : TypeId} {xs : List Value} (h : w.ownsRow base T size (.slice a n c) n xs) (hn : 0 < n) :
    ∃ g cur, a = some ⟨g, 0, none⟩ ∧ base ≤ g ∧ w.heap[g]? = some (.cells cur T (0, 0)) ∧ n ≤ c ∧ c ≤ maxLen ∧ cur.size = c * size ∧ cur.toList.take (n * size) = xs := by
  rcases h.2 with ⟨h1, h2⟩ | ⟨g, cap, cur, h1, h2, h3, h4, h5, h6, h7⟩
  · omega
  · injection h1 with e1 e2 e3
    subst e1 e3
    exact ⟨g, cur, rfl, h2, h3, h4, h5, h6, h7⟩
theorem ownG_at {w : World} {base size n c g : Nat} {T : TypeId} {xs : List Value} (h : w.ownsRow base T size (.slice (some ⟨g, 0, none⟩) n c) n xs) {k : Nat} {v : Value} (hk : xs[k]? = some v) :
    w.cell? ⟨g, k, none⟩ = some v ∧ w.frozen? ⟨g, k, none⟩ = false := by
  have hx : k < xs.length := (List.getElem?_eq_some_iff.1 hk).1
  rcases h.2 with ⟨h1, _⟩ | ⟨g', cap, cur, h1, hb, hg, hn, _, _, ht⟩
  · cases h1
  · injection h1 with h1 h2 h3
    injection h1 with h1
    injection h1 with h1
    subst h1
    refine ⟨?_, by simp [World.frozen?, hg]⟩
    rw [cell_of_row w g k cur T (0, 0) hg]
    have : (cur.toList.take (n * size))[k]? = some v := by rw [ht]; exact hk
    rw [List.getElem?_take] at this
    split at this
    · simpa using this
    · cases this
theorem ownG_set {w : World} {base size n c g : Nat} {T : TypeId} {xs : List Value} (h : w.ownsRow base T size (.slice (some ⟨g, 0, none⟩) n c) n xs) (k : Nat) (u : Value) :
    (w.setCell ⟨g, k, none⟩ u).ownsRow base T size (.slice (some ⟨g, 0, none⟩) n c) n (xs.set k u) := by
  refine ⟨by simpa using h.1, ?_⟩
  rcases h.2 with ⟨h1, _⟩ | ⟨g', cap, cur, h1, hb, hg, hn, hm, hs, ht⟩
  · cases h1
  · injection h1 with h1 h2 h3
    injection h1 with h1
    injection h1 with h1
    subst h1
    refine .inr ⟨g, cap, cur.setIfInBounds k u, by rw [h3], hb, ?_, hn, hm, by simpa using hs, ?_⟩
    · simp [World.setCell, Array.getElem?_modify, hg]
    · rw [Array.toList_setIfInBounds, List.take_set, ht]
theorem flat_set0 : ∀ (l : List Ent) (k : Nat) (e : Ent) (s : List UInt8), l[k]? = some e → (l.flatMap encE).set (k * 2) (.string (bstr s)) = (l.set k (s, e.2)).flatMap encE
  | [], k, e, s, h => by simp at h
  | y :: l, 0, e, s, h => by
    simp at h; subst h
    simp [encE]
  | y :: l, k + 1, e, s, h => by
    have ih := flat_set0 l k e s (by simpa using h)
    rw [List.flatMap_cons, List.set_cons_succ, List.flatMap_cons, ← ih, show (k + 1) * 2 = k * 2 + 2 by omega]
    rfl
theorem flat_set1 : ∀ (l : List Ent) (k : Nat) (e : Ent) (x : Int), l[k]? = some e → (l.flatMap encE).set (k * 2 + 1) (.int .i64 x) = (l.set k (e.1, x)).flatMap encE
  | [], k, e, s, h => by simp at h
  | y :: l, 0, e, s, h => by
    simp at h; subst h
    simp [encE]
  | y :: l, k + 1, e, s, h => by
    have ih := flat_set1 l k e s (by simpa using h)
    rw [List.flatMap_cons, List.set_cons_succ, List.flatMap_cons, ← ih, show (k + 1) * 2 + 1 = k * 2 + 1 + 2 by omega]
    rfl
/-- The prefix of a row of one's own. -/
theorem ownG_take {w : World} {base size n c : Nat} {a : Option Addr} {T : TypeId} {xs : List Value} (h : w.ownsRow base T size (.slice a n c) n xs) {i : Nat} (hi : i ≤ n) :
    w.ownsRow base T size (.slice a i c) i (xs.take (i * size)) := by
  have hm : i * size ≤ n * size := Nat.mul_le_mul_right _ hi
  refine ⟨by rw [List.length_take, h.1]; omega, ?_⟩
  rcases h.2 with ⟨h1, h2⟩ | ⟨g, cap, cur, h1, h2, h3, h4, h5, h6, h7⟩
  · injection h1 with e1 e2 e3
    subst e1 e3
    obtain rfl : i = 0 := by omega
    exact .inl ⟨rfl, rfl⟩
  · injection h1 with e1 e2 e3
    subst e1 e3
    exact .inr ⟨g, c, cur, rfl, h2, h3, by omega, h5, h6, by rw [← h7, List.take_take, Nat.min_eq_left hm]⟩
/-- Four cells of a block, stored. -/
def set4 (w : World) (g : Nat) (p0 p1 p2 p3 : Value) : World := (((w.setCell ⟨g, 0, none⟩ p0).setCell ⟨g, 1, none⟩ p1).setCell ⟨g, 2, none⟩ p2).setCell ⟨g, 3, none⟩ p3
theorem set4_size (w : World) (g : Nat) (p0 p1 p2 p3 : Value) : (set4 w g p0 p1 p2 p3).heap.size = w.heap.size := by simp [set4]
theorem Blk.set4 {w : World} {g : Nat} {a b c d : Value} {t : TypeId} (h : Blk w g [a, b, c, d] t) (p0 p1 p2 p3 : Value) : Blk (set4 w g p0 p1 p2 p3) g [p0, p1, p2, p3] t := (((h.set 0 p0).set 1 p1).set 2 p2).set 3 p3
theorem Blk.set4ne {w : World} {g g' : Nat} {cs : List Value} {t : TypeId} (h : Blk w g cs t) (hne : g ≠ g') (p0 p1 p2 p3 : Value) : Blk (Go.Proofs.Ytjpmfiicbokdcaa.set4 w g' p0 p1 p2 p3) g cs t := (((h.setne hne 0 p0).setne hne 1 p1).setne hne 2 p2).setne hne 3 p3
theorem bl_set4 {w wr : World} {B g : Nat} (h : Below B w wr) (hg : B ≤ g) (p0 p1 p2 p3 : Value) : Below B w (set4 wr g p0 p1 p2 p3) := bl_setG (bl_setG (bl_setG (bl_setG h hg _ _) hg _ _) hg _ _) hg _ _
theorem ownG_set4 {w : World} {base size : Nat} {e : TypeId} {v : Value} {n : Nat} {xs : List Value} (h : w.ownsRow base e size v n xs) {g : Nat} (hg : v.ownBlock ≠ some g) (p0 p1 p2 p3 : Value) : (set4 w g p0 p1 p2 p3).ownsRow base e size v n xs :=
  ownG_setne (ownG_setne (ownG_setne (ownG_setne h hg _ _) hg _ _) hg _ _) hg _ _
theorem own_ne {w : World} {base size : Nat} {e : TypeId} {v : Value} {n : Nat} {xs : List Value} (h : w.ownsRow base e size v n xs) {g : Nat} (hg : g < base) : v.ownBlock ≠ some g := fun hq => by have := (ownG_lt h hq).1; omega
/-- A result in a block and one in a slot. -/
theorem results_cell_tmp_row {P : Program} {fn : Func} {p u : Tmp} {ty : TypeId} (h : fn.results = #[.cell p ty, .tmp u]) (tmps : Array Value) (w : World) (g : Nat) (t : TypeId) (cs : List Value) (d : TypeDesc)
    (hp : tmps.getD p undef = .pointer (some ⟨g, 0, none⟩)) (hg : Blk w g cs t)
    (hu : P.underlying ty = some d) (hd : (match d with | .struct _ | .array _ _ => true | _ => false) = true) (hi : (P.info? ty).map (·.size) = some cs.length) :
    (results fn tmps).run P w = .ok (.tuple #[.agg cs.toArray, tmps.getD u undef]) w := by
  rw [results_cell_tmp h, hp]
  have : (asAddr (.pointer (some ⟨g, 0, none⟩))).run P w = .ok ⟨g, 0, none⟩ w := rfl
  rw [this]
  simp only [Result.andThen]
  rw [run_loadVar_row w g t ty cs.toArray (0, 0) d hg hu hd (by simpa using hi)]
theorem rd_oneO (w : World) (o : DOp) (t : TypeId) : Rd (w.alloc (.cells #[.int .i64 o.1, .string (bstr o.2.1), .string (bstr o.2.2.1), .string (bstr o.2.2.2)] t)) (some ⟨w.heap.size, 0, none⟩) ([o].flatMap encO) :=
  rd_lit w #[.int .i64 o.1, .string (bstr o.2.1), .string (bstr o.2.2.1), .string (bstr o.2.2.2)] t (0, 0)
theorem rd_oneOG {w : World} {g : Nat} (hg : g = w.heap.size) (o : DOp) (t : TypeId) : Rd (w.alloc (.cells #[.int .i64 o.1, .string (bstr o.2.1), .string (bstr o.2.2.1), .string (bstr o.2.2.2)] t)) (some ⟨g, 0, none⟩) ([o].flatMap encO) := by
  subst hg; exact rd_oneO w o t
/-! ### What is read is not in a block of slices -/
def isSl : Value → Bool | .slice _ _ _ => true | _ => false
def AllSl (cs : List Value) : Prop := ∀ c ∈ cs, isSl c = true
theorem rd_setSl {w : World} {a : Option Addr} {xs : List Value} {g k : Nat} {cs : List Value} {t : TypeId} {v : Value} (h : Rd w a xs) (hx : ∀ x ∈ xs, isSl x = false) (hb : Blk w g cs t) (hc : AllSl cs) : Rd (w.setCell ⟨g, k, none⟩ v) a xs := by
  rcases h with rfl | ⟨b, o, rfl, hlt, hcell⟩
  · exact .inl rfl
  · refine .inr ⟨b, o, rfl, by simpa using hlt, fun j u hj => ?_⟩
    have h1 := hcell j u hj
    have hne : b ≠ g := by
      rintro rfl
      rw [cell_of_row w b (o + j) _ _ _ hb] at h1
      have h2 : cs[o + j]? = some u := by simpa using h1
      have h3 := hc u (List.mem_of_getElem? h2)
      rw [hx u (List.mem_of_getElem? hj)] at h3
      cases h3
    rw [← h1]
    simp [World.cell?, World.setCell, Array.getElem?_modify, Ne.symm hne]
theorem encE_noSl (l : List Ent) : ∀ x ∈ l.flatMap encE, isSl x = false := by
  intro u hu
  obtain ⟨e, -, he⟩ := List.mem_flatMap.1 hu
  simp [encE] at he
  rcases he with rfl | rfl <;> rfl
theorem encO_noSl (l : List DOp) : ∀ x ∈ l.flatMap encO, isSl x = false := by
  intro u hu
  obtain ⟨e, -, he⟩ := List.mem_flatMap.1 hu
  simp [encO] at he
  rcases he with rfl | rfl | rfl | rfl <;> rfl
theorem RE.setSl {w : World} {a : Option Addr} {n : Nat} {l : List Ent} {g k : Nat} {cs : List Value} {t : TypeId} {v : Value} (h : RE w a n l) (hb : Blk w g cs t) (hc : AllSl cs) : RE (w.setCell ⟨g, k, none⟩ v) a n l := ⟨h.1, rd_setSl h.2 (encE_noSl l) hb hc⟩
theorem RO.setSl {w : World} {a : Option Addr} {n : Nat} {l : List DOp} {g k : Nat} {cs : List Value} {t : TypeId} {v : Value} (h : RO w a n l) (hb : Blk w g cs t) (hc : AllSl cs) : RO (w.setCell ⟨g, k, none⟩ v) a n l := ⟨h.1, rd_setSl h.2 (encO_noSl l) hb hc⟩
theorem IsD.setSl {w : World} {u : Value} {d : Dsk} {g k : Nat} {cs : List Value} {t : TypeId} {v : Value} (h : IsD w u d) (hb : Blk w g cs t) (hc : AllSl cs) : IsD (w.setCell ⟨g, k, none⟩ v) u d := by
  obtain ⟨a1, n1, c1, a2, n2, c2, a3, n3, c3, a4, n4, c4, rfl, h1, h2, h3, h4, h5⟩ := h.h
  exact ⟨a1, n1, c1, a2, n2, c2, a3, n3, c3, a4, n4, c4, rfl, h1.setSl hb hc, h2.setSl hb hc, h3.setSl hb hc, h4.setSl hb hc, h5⟩
theorem AllSl.set {cs : List Value} (h : AllSl cs) (k : Nat) {v : Value} (hv : isSl v = true) : AllSl (cs.set k v) := by
  intro c hc
  rcases List.mem_or_eq_of_mem_set hc with hc | rfl
  · exact h c hc
  · exact hv
theorem IsD.set4 {w : World} {u : Value} {d : Dsk} {g : Nat} {cs : List Value} {t : TypeId} (h : IsD w u d) (hb : Blk w g cs t) (hc : AllSl cs) {p0 p1 p2 p3 : Value} (h0 : isSl p0 = true) (h1 : isSl p1 = true) (h2 : isSl p2 = true) : IsD (Go.Proofs.Ytjpmfiicbokdcaa.set4 w g p0 p1 p2 p3) u d :=
  (((h.setSl hb hc).setSl (hb.set 0 p0) (hc.set 0 h0)).setSl ((hb.set 0 p0).set 1 p1) ((hc.set 0 h0).set 1 h1)).setSl (((hb.set 0 p0).set 1 p1).set 2 p2) (((hc.set 0 h0).set 1 h1).set 2 h2)
theorem allSl4 (a1 a2 a3 a4 : Option Addr) (n1 c1 n2 c2 n3 c3 n4 c4 : Nat) : AllSl [.slice a1 n1 c1, .slice a2 n2 c2, .slice a3 n3 c3, .slice a4 n4 c4] := by
  intro c hc
  simp at hc
  rcases hc with rfl | rfl | rfl | rfl <;> rfl
/-- A disk whose inodes and operations are the call's own. -/
def nilD : Value := .agg #[.slice none 0 0, .slice none 0 0, .slice none 0 0, .slice none 0 0]
theorem isD_nil (w : World) : IsD w nilD .nil := ⟨_, _, _, _, _, _, _, _, _, _, _, _, rfl, ⟨rfl, .inl rfl⟩, ⟨rfl, .inl rfl⟩, ⟨rfl, .inl rfl⟩, ⟨rfl, .inl rfl⟩, ⟨Nat.le_refl _, Nat.zero_le _⟩, ⟨Nat.le_refl _, Nat.zero_le _⟩, ⟨Nat.le_refl _, Nat.zero_le _⟩, Nat.le_refl _, Nat.zero_le _⟩
theorem isD_own {w : World} {B B' : Nat} {T T' : TypeId} {A1 a2 a3 A4 : Option Addr} {m1 p1 n2 c2 n3 c3 m4 p4 : Nat} {l1 l2 l3 : List Ent} {l4 : List DOp} (h1 : w.ownsRow B T 2 (.slice A1 m1 p1) m1 (l1.flatMap encE)) (e1 : m1 = l1.length) (h2 : RE w a2 n2 l2) (h3 : RE w a3 n3 l3) (h4 : w.ownsRow B' T' 4 (.slice A4 m4 p4) m4 (l4.flatMap encO)) (e4 : m4 = l4.length) (g2 : n2 ≤ c2 ∧ c2 ≤ maxLen) (g3 : n3 ≤ c3 ∧ c3 ≤ maxLen) :
    IsD w (.agg #[.slice A1 m1 p1, .slice a2 n2 c2, .slice a3 n3 c3, .slice A4 m4 p4]) ⟨l1, l2, l3, l4⟩ := by
  obtain ⟨q1, q2⟩ := own_Rds h1
  obtain ⟨q3, q4⟩ := own_Rds h4
  exact ⟨_, _, _, _, _, _, _, _, _, _, _, _, rfl, ⟨e1, q2⟩, h2, h3, ⟨e4, q4⟩, q1, g2, g3, q3⟩
theorem own_RE2 {w : World} {B : Nat} {T : TypeId} {a : Option Addr} {n c : Nat} {l : List Ent} (h : w.ownsRow B T 2 (.slice a n c) n (l.flatMap encE)) (hn : n = l.length) : RE w a n l ∧ n ≤ c ∧ c ≤ maxLen := by
  obtain ⟨q1, q2⟩ := own_Rds h
  exact ⟨⟨hn, q2⟩, q1⟩
/-- What an operation answers. -/
def AppP (w : World) (r : Dsk × Nat) (e : Ending) (w' : World) : Prop := ∃ u, e = .returned (.tuple #[u, .int .i64 (r.2 : Int)]) ∧ IsD w' u r.1 ∧ Below w.heap.size w w'
theorem AppP.no {w w' : World} {r : Dsk × Nat} {k : Nat} {e : Ending} (hr : r = (.nil, k)) (he : e = .returned (.tuple #[nilD, .int .i64 (k : Int)])) (hb : Below w.heap.size w w') : AppP w r e w' := by
  subst hr
  exact ⟨_, he, isD_nil _, hb⟩
theorem AppP.ok {w w' : World} {r : Dsk × Nat} {d : Dsk} {u : Value} {e : Ending} (hr : r = (d, 0)) (he : e = .returned (.tuple #[u, .int .i64 0])) (hd : IsD w' u d) (hb : Below w.heap.size w w') : AppP w r e w' := by
  subst hr
  exact ⟨_, he, hd, hb⟩
end Go.Proofs.Ytjpmfiicbokdcaa
