/- Disks: their plain model, rows of structs in memory. -/
import Derived.Test.YtjpmfiicbokdcaaProg
import Derived.Test.YtjpmfiicbokdcaaKeep
import Derived.Test.YtjpmfiicbokdcaaStr
import Derived.Test.YtjpmfiicbokdcaaRegF
import Derived.Lib.Bytealg
namespace Go.Proofs.Ytjpmfiicbokdcaa
open Go.RowKit
set_option linter.unusedVariables false
/-- A name and a number: an entry of a directory, or the contents of a file and how much of it is durable. -/
abbrev Ent := List UInt8 × Int
/-- An operation: its kind, Name, To, Data. -/
abbrev DOp := Int × List UInt8 × List UInt8 × List UInt8
structure Dsk where
  inodes : List Ent
  dir : List Ent
  dur : List Ent
  ops : List DOp
def Dsk.nil : Dsk := ⟨[], [], [], []⟩
def encE (e : Ent) : List Value := [.string (bstr e.1), .int .i64 e.2]
def encO (o : DOp) : List Value := [.int .i64 o.1, .string (bstr o.2.1), .string (bstr o.2.2.1), .string (bstr o.2.2.2)]
theorem flat_get {α : Type} {enc : α → List Value} {s : Nat} (hs : ∀ x, (enc x).length = s) : ∀ (l : List α) (k j : Nat) (x : α) (v : Value), l[k]? = some x → (enc x)[j]? = some v → (l.flatMap enc)[k * s + j]? = some v
  | [], k, j, x, v, hk, hj => by simp at hk
  | y :: l, 0, j, x, v, hk, hj => by
    simp at hk
    subst hk
    rw [List.flatMap_cons, Nat.zero_mul, Nat.zero_add, List.getElem?_append_left (List.getElem?_eq_some_iff.1 hj).1]
    exact hj
  | y :: l, k + 1, j, x, v, hk, hj => by
    rw [List.flatMap_cons, List.getElem?_append_right (by rw [hs, Nat.succ_mul]; omega), hs, show (k + 1) * s + j - s = k * s + j by rw [Nat.succ_mul]; omega]
    exact flat_get hs l k j x v (by simpa using hk) hj
theorem flat_len {α : Type} {enc : α → List Value} {s : Nat} (hs : ∀ x, (enc x).length = s) : ∀ (l : List α), (l.flatMap enc).length = l.length * s
  | [] => by simp
  | y :: l => by rw [List.flatMap_cons, List.length_append, hs, flat_len hs l, List.length_cons, Nat.succ_mul]; omega
theorem encE_len (e : Ent) : (encE e).length = 2 := rfl
theorem encO_len (o : DOp) : (encO o).length = 4 := rfl
theorem encE_one (l : List Ent) : ∀ u ∈ l.flatMap encE, u.oneCell' = true := by
  intro u hu
  obtain ⟨e, -, he⟩ := List.mem_flatMap.1 hu
  simp [encE] at he
  rcases he with rfl | rfl <;> rfl
theorem encO_one (l : List DOp) : ∀ u ∈ l.flatMap encO, u.oneCell' = true := by
  intro u hu
  obtain ⟨e, -, he⟩ := List.mem_flatMap.1 hu
  simp [encO] at he
  rcases he with rfl | rfl | rfl | rfl <;> rfl
/-- Entries, read. -/
def RE (w : World) (a : Option Addr) (n : Nat) (l : List Ent) : Prop := n = l.length ∧ Rd w a (l.flatMap encE)
/-- Operations, read. -/
def RO (w : World) (a : Option Addr) (n : Nat) (l : List DOp) : Prop := n = l.length ∧ Rd w a (l.flatMap encO)
theorem RE.below {w w' : World} {a : Option Addr} {n : Nat} {l : List Ent} (h : RE w a n l) (hb : Below w.heap.size w w') : RE w' a n l := ⟨h.1, Rd.below h.2 hb⟩
theorem RO.below {w w' : World} {a : Option Addr} {n : Nat} {l : List DOp} (h : RO w a n l) (hb : Below w.heap.size w w') : RO w' a n l := ⟨h.1, Rd.below h.2 hb⟩
theorem RE.at_ {w : World} {a : Option Addr} {n : Nat} {l : List Ent} (h : RE w a n l) {k : Nat} (hk : k < n) :
    ∃ b o s x, a = some ⟨b, o, none⟩ ∧ b < w.heap.size ∧ l[k]? = some (s, x) ∧ w.cell? ⟨b, o + k * 2, none⟩ = some (.string (bstr s)) ∧ w.cell? ⟨b, o + k * 2 + 1, none⟩ = some (.int .i64 x) := by
  obtain ⟨⟨s, x⟩, he⟩ : ∃ e, l[k]? = some e := ⟨_, List.getElem?_eq_getElem (by have := h.1; omega)⟩
  obtain ⟨b, o, ha, hb, e0⟩ := h.2.at_ (flat_get encE_len l k 0 _ _ he rfl)
  obtain ⟨b', o', ha', -, e1⟩ := h.2.at_ (flat_get encE_len l k 1 _ _ he rfl)
  rw [ha] at ha'
  injection ha' with q
  injection q with q1 q2
  subst q1 q2
  exact ⟨b, o, s, x, ha, hb, he, e0, by rw [Nat.add_assoc]; exact e1⟩
theorem RO.at_ {w : World} {a : Option Addr} {n : Nat} {l : List DOp} (h : RO w a n l) {k : Nat} (hk : k < n) :
    ∃ b o q s t d, a = some ⟨b, o, none⟩ ∧ b < w.heap.size ∧ l[k]? = some (q, s, t, d) ∧ w.cell? ⟨b, o + k * 4, none⟩ = some (.int .i64 q) ∧ w.cell? ⟨b, o + k * 4 + 1, none⟩ = some (.string (bstr s)) ∧ w.cell? ⟨b, o + k * 4 + 2, none⟩ = some (.string (bstr t)) ∧ w.cell? ⟨b, o + k * 4 + 3, none⟩ = some (.string (bstr d)) := by
  obtain ⟨⟨q, s, t, d⟩, he⟩ : ∃ e, l[k]? = some e := ⟨_, List.getElem?_eq_getElem (by have := h.1; omega)⟩
  obtain ⟨b, o, ha, hb, e0⟩ := h.2.at_ (flat_get encO_len l k 0 _ _ he rfl)
  have go : ∀ j v, (encO (q, s, t, d))[j]? = some v → w.cell? ⟨b, o + k * 4 + j, none⟩ = some v := fun j v hj => by
    obtain ⟨b', o', ha', -, e1⟩ := h.2.at_ (flat_get encO_len l k j _ _ he hj)
    rw [ha] at ha'
    injection ha' with q
    injection q with q1 q2
    subst q1 q2
    rw [Nat.add_assoc]; exact e1
  exact ⟨b, o, q, s, t, d, ha, hb, he, e0, go 1 _ rfl, go 2 _ rfl, go 3 _ rfl⟩
theorem ownG_form {w : World} {base size : Nat} {e : TypeId} {v : Value} {n : Nat} {xs : List Value} (h : w.ownsRow base e size v n xs) : ∃ a c, v = .slice a n c ∧ n ≤ c ∧ Rd w a xs := by
  rcases h.2 with ⟨rfl, rfl⟩ | ⟨g, cap, cur, rfl, hb, hg, hn, _, _, ht⟩
  · refine ⟨none, 0, rfl, Nat.le_refl _, ?_⟩
    have := h.1
    rw [Nat.zero_mul] at this
    exact .inl (List.eq_nil_of_length_eq_zero this)
  · refine ⟨_, cap, rfl, hn, .inr ⟨g, 0, rfl, (Array.getElem?_eq_some_iff.1 hg).1, fun k v hk => ?_⟩⟩
    have := h.cells (g := g) rfl k v hk
    rwa [Addr.add_lit] at this
theorem ownG_blocks {w w' : World} {base size : Nat} {e : TypeId} {v : Value} {n : Nat} {xs : List Value} (h : w.ownsRow base e size v n xs) (hb : ∀ k, v.ownBlock = some k → w'.heap[k]? = w.heap[k]?) : w'.ownsRow base e size v n xs := by
  refine ⟨h.1, ?_⟩
  rcases h.2 with h | ⟨g', cap, cur, rfl, h2, h3, h4⟩
  · exact .inl h
  · exact .inr ⟨g', cap, cur, rfl, h2, (hb g' rfl).trans h3, h4⟩
theorem ownG_lt {w : World} {base size : Nat} {e : TypeId} {v : Value} {n : Nat} {xs : List Value} (h : w.ownsRow base e size v n xs) {k : Nat} (hk : v.ownBlock = some k) : base ≤ k ∧ k < w.heap.size := by
  rcases h.2 with ⟨rfl, _⟩ | ⟨g', cap, cur, rfl, h2, h3, h4⟩
  · simp [Value.ownBlock] at hk
  · simp [Value.ownBlock] at hk
    subst hk
    exact ⟨h2, (Array.getElem?_eq_some_iff.1 h3).1⟩
theorem ownG_below {w w' : World} {base size : Nat} {e : TypeId} {v : Value} {n : Nat} {xs : List Value} (h : w.ownsRow base e size v n xs) (hb : Below w.heap.size w w') : w'.ownsRow base e size v n xs :=
  ownG_blocks h fun k hk => hb.block k (ownG_lt h hk).2
/-- A disk as a value, its slices read. -/
structure IsD (w : World) (v : Value) (d : Dsk) : Prop where
  h : ∃ a1 n1 c1 a2 n2 c2 a3 n3 c3 a4 n4 c4, v = .agg #[.slice a1 n1 c1, .slice a2 n2 c2, .slice a3 n3 c3, .slice a4 n4 c4] ∧ RE w a1 n1 d.inodes ∧ RE w a2 n2 d.dir ∧ RE w a3 n3 d.dur ∧ RO w a4 n4 d.ops ∧
    (n1 ≤ c1 ∧ c1 ≤ maxLen) ∧ (n2 ≤ c2 ∧ c2 ≤ maxLen) ∧ (n3 ≤ c3 ∧ c3 ≤ maxLen) ∧ (n4 ≤ c4 ∧ c4 ≤ maxLen)
theorem IsD.below {w w' : World} {v : Value} {d : Dsk} (h : IsD w v d) (hb : Below w.heap.size w w') : IsD w' v d := by
  obtain ⟨a1, n1, c1, a2, n2, c2, a3, n3, c3, a4, n4, c4, rfl, h1, h2, h3, h4, h5⟩ := h.h
  exact ⟨a1, n1, c1, a2, n2, c2, a3, n3, c3, a4, n4, c4, rfl, h1.below hb, h2.below hb, h3.below hb, h4.below hb, h5⟩
/-! ### The order of names -/
def nlt (a b : List UInt8) : Bool := Op.bytesLess a b
theorem nlt_irrefl : ∀ a, nlt a a = false
  | [] => rfl
  | x :: a => by
    have := nlt_irrefl a
    unfold nlt at this ⊢
    simp [Op.bytesLess, this]
theorem nlt_trans : ∀ {a b c}, nlt a b = true → nlt b c = true → nlt a c = true
  | _, [], _, h, _ => by unfold nlt at h; simp [Op.bytesLess] at h
  | _, _ :: _, [], _, h => by unfold nlt at h; simp [Op.bytesLess] at h
  | [], _ :: _, _ :: _, _, _ => rfl
  | x :: a, y :: b, z :: c, h1, h2 => by
    unfold nlt at h1 h2 ⊢
    simp only [Op.bytesLess, Bool.or_eq_true, decide_eq_true_eq, Bool.and_eq_true, beq_iff_eq] at h1 h2 ⊢
    rcases h1 with h1 | ⟨rfl, h1⟩ <;> rcases h2 with h2 | ⟨rfl, h2⟩
    · exact .inl (UInt8.lt_trans h1 h2)
    · exact .inl h1
    · exact .inl h2
    · exact .inr ⟨rfl, nlt_trans (a := a) (b := b) (c := c) h1 h2⟩
theorem nlt_total : ∀ {a b}, nlt a b = false → nlt b a = false → a = b
  | [], [], _, _ => rfl
  | [], _ :: _, h, _ => by unfold nlt at h; simp [Op.bytesLess] at h
  | _ :: _, [], _, h => by unfold nlt at h; simp [Op.bytesLess] at h
  | x :: a, y :: b, h1, h2 => by
    unfold nlt at h1 h2
    simp only [Op.bytesLess, Bool.or_eq_false_iff, decide_eq_false_iff_not, Bool.and_eq_false_imp, beq_iff_eq] at h1 h2
    have hxy : x = y := UInt8.le_antisymm (UInt8.not_lt.1 h2.1) (UInt8.not_lt.1 h1.1)
    subst hxy
    rw [nlt_total (a := a) (b := b) (h1.2 rfl) (h2.2 rfl)]
theorem nlt_asymm {a b : List UInt8} (h : nlt a b = true) : nlt b a = false := by
  rcases hb : nlt b a with _ | _
  · rfl
  · have := nlt_trans h hb
    rw [nlt_irrefl] at this
    cases this
theorem nlt_ne {a b : List UInt8} (h : nlt a b = true) : a ≠ b := by
  rintro rfl
  rw [nlt_irrefl] at h; cases h
theorem cmp_nlt : ∀ (a b : List UInt8), Lib.compareBytes a b = if nlt a b then -1 else if a = b then 0 else 1
  | [], [] => rfl
  | [], _ :: _ => rfl
  | _ :: _, [] => rfl
  | x :: a, y :: b => by
    have ih := cmp_nlt a b
    unfold nlt at ih ⊢
    unfold Lib.compareBytes
    simp only [Op.bytesLess, Bool.or_eq_true, decide_eq_true_eq, Bool.and_eq_true, beq_iff_eq]
    by_cases h1 : x < y
    · rw [if_pos h1, if_pos (.inl h1)]
    · rw [if_neg h1]
      by_cases h2 : y < x
      · have hne : x ≠ y := fun h => by subst h; exact h1 h2
        rw [if_pos h2, if_neg (by rintro (h | ⟨h, -⟩); exact h1 h; exact hne h), if_neg (by rintro h; injection h with h; exact hne h)]
      · have hxy : x = y := UInt8.le_antisymm (UInt8.not_lt.1 h2) (UInt8.not_lt.1 h1)
        subst hxy
        rw [if_neg h2, ih]
        simp [h1]
end Go.Proofs.Ytjpmfiicbokdcaa
