/- The other parts of a corpus in memory: attributes, tokens, texts, regions, pairs, strings; and how they are read. -/
import Derived.Test.YtbpkclopcoaikaaGreatDoorMd
import Derived.Test.YtbpkclopcoaikaaGreatDoorUaWm
namespace Go.Proofs.YtbpkclopcoaikaaGreatDoor
open Go.RowKit
set_option linter.unusedVariables false
set_option linter.unusedSimpArgs false
/-- A bound of every count. -/
abbrev big : Nat := 9223372036854775807
/-! ### Strings -/
def sv (s : List UInt8) : Value := .string (bstr s)
def IsS (w : World) (a : Option Addr) (n : Nat) (l : List (List UInt8)) : Prop := n = l.length ∧ Rd w a (l.map sv)
theorem IsS.below {w w' : World} {a : Option Addr} {n : Nat} {l : List (List UInt8)} (h : IsS w a n l) (hb : Below w.heap.size w w') : IsS w' a n l := ⟨h.1, h.2.below hb⟩
theorem IsS.at_ {w : World} {a : Option Addr} {n : Nat} {l : List (List UInt8)} (h : IsS w a n l) {k : Nat} (hk : k < n) :
    ∃ b o x, a = some ⟨b, o, none⟩ ∧ b < w.heap.size ∧ l[k]? = some x ∧ w.cell? ⟨b, o + k, none⟩ = some (.string (bstr x)) := by
  have hc : l[k]? = some (l[k]'(by have := h.1; omega)) := List.getElem?_eq_getElem _
  obtain ⟨b, o, ha, hb, e⟩ := h.2.at_ (k := k) (v := sv _) (by rw [List.getElem?_map, hc]; rfl)
  exact ⟨b, o, _, ha, hb, hc, e⟩
/-! ### Pairs -/
structure Pr where
  nm : List UInt8
  vl : List UInt8
def encP (x : Pr) : List Value := [.string (bstr x.nm), .string (bstr x.vl)]
theorem encP_len (x : Pr) : (encP x).length = 2 := rfl
def IsP (w : World) (a : Option Addr) (n : Nat) (l : List Pr) : Prop := n = l.length ∧ Rd w a (l.flatMap encP)
theorem IsP.below {w w' : World} {a : Option Addr} {n : Nat} {l : List Pr} (h : IsP w a n l) (hb : Below w.heap.size w w') : IsP w' a n l := ⟨h.1, h.2.below hb⟩
theorem IsP.at_ {w : World} {a : Option Addr} {n : Nat} {l : List Pr} (h : IsP w a n l) {k : Nat} (hk : k < n) :
    ∃ b o x, a = some ⟨b, o, none⟩ ∧ b < w.heap.size ∧ l[k]? = some x ∧ w.cell? ⟨b, o + k * 2, none⟩ = some (.string (bstr x.nm)) ∧ w.cell? ⟨b, o + k * 2 + 1, none⟩ = some (.string (bstr x.vl)) := by
  have hc : l[k]? = some (l[k]'(by have := h.1; omega)) := List.getElem?_eq_getElem _
  obtain ⟨b, o, rfl, hb, e⟩ := rd_flat encP_len (fun l k j x v => flat_get encP_len l k j x v) h.2 hc (by omega)
  exact ⟨b, o, _, rfl, hb, hc, e 0 _ rfl, e 1 _ rfl⟩
/-! ### Attributes -/
structure Ab where
  nm : List UInt8
  st : Bool
def encA (x : Ab) : List Value := [.string (bstr x.nm), .bool x.st]
theorem encA_len (x : Ab) : (encA x).length = 2 := rfl
def IsA (w : World) (a : Option Addr) (n : Nat) (l : List Ab) : Prop := n = l.length ∧ Rd w a (l.flatMap encA)
theorem IsA.below {w w' : World} {a : Option Addr} {n : Nat} {l : List Ab} (h : IsA w a n l) (hb : Below w.heap.size w w') : IsA w' a n l := ⟨h.1, h.2.below hb⟩
theorem IsA.at_ {w : World} {a : Option Addr} {n : Nat} {l : List Ab} (h : IsA w a n l) {k : Nat} (hk : k < n) :
    ∃ b o x, a = some ⟨b, o, none⟩ ∧ b < w.heap.size ∧ l[k]? = some x ∧ w.cell? ⟨b, o + k * 2, none⟩ = some (.string (bstr x.nm)) ∧ w.cell? ⟨b, o + k * 2 + 1, none⟩ = some (.bool x.st) := by
  have hc : l[k]? = some (l[k]'(by have := h.1; omega)) := List.getElem?_eq_getElem _
  obtain ⟨b, o, rfl, hb, e⟩ := rd_flat encA_len (fun l k j x v => flat_get encA_len l k j x v) h.2 hc (by omega)
  exact ⟨b, o, _, rfl, hb, hc, e 0 _ rfl, e 1 _ rfl⟩
/-! ### Texts and regions -/
structure Tx where
  lab : List UInt8
  b : Int
  e : Int
  s : Sl
  ps : List Pr
def encT (x : Tx) : List Value := [.string (bstr x.lab), iv x.b, iv x.e, .slice x.s.a x.s.n x.s.c]
theorem encT_len (x : Tx) : (encT x).length = 4 := rfl
structure IsX (w : World) (a : Option Addr) (n : Nat) (l : List Tx) : Prop where
  len : n = l.length
  rd : Rd w a (l.flatMap encT)
  sub : ∀ x ∈ l, IsP w x.s.a x.s.n x.ps ∧ x.s.n ≤ x.s.c ∧ x.s.c ≤ big
theorem IsX.below {w w' : World} {a : Option Addr} {n : Nat} {l : List Tx} (h : IsX w a n l) (hb : Below w.heap.size w w') : IsX w' a n l := ⟨h.len, h.rd.below hb, fun x hx => ⟨(h.sub x hx).1.below hb, (h.sub x hx).2⟩⟩
theorem IsX.at_ {w : World} {a : Option Addr} {n : Nat} {l : List Tx} (h : IsX w a n l) {k : Nat} (hk : k < n) :
    ∃ b o x, a = some ⟨b, o, none⟩ ∧ b < w.heap.size ∧ l[k]? = some x ∧ (IsP w x.s.a x.s.n x.ps ∧ x.s.n ≤ x.s.c ∧ x.s.c ≤ big) ∧ w.cell? ⟨b, o + k * 4, none⟩ = some (.string (bstr x.lab)) ∧ w.cell? ⟨b, o + k * 4 + 1, none⟩ = some (.int .i64 x.b) ∧ w.cell? ⟨b, o + k * 4 + 2, none⟩ = some (.int .i64 x.e) ∧ w.cell? ⟨b, o + k * 4 + 3, none⟩ = some (.slice x.s.a x.s.n x.s.c) := by
  have hc : l[k]? = some (l[k]'(by have := h.len; omega)) := List.getElem?_eq_getElem _
  obtain ⟨b, o, rfl, hb, e⟩ := rd_flat encT_len (fun l k j x v => flat_get encT_len l k j x v) h.rd hc (by omega)
  exact ⟨b, o, _, rfl, hb, hc, h.sub _ (List.mem_of_getElem? hc), e 0 _ rfl, e 1 _ rfl, e 2 _ rfl, e 3 _ rfl⟩
/-! ### Tokens -/
structure Tk where
  s : Sl
  vs : List (List UInt8)
def encK (x : Tk) : Value := .slice x.s.a x.s.n x.s.c
structure IsT (w : World) (a : Option Addr) (n : Nat) (l : List Tk) : Prop where
  len : n = l.length
  rd : Rd w a (l.map encK)
  sub : ∀ x ∈ l, IsS w x.s.a x.s.n x.vs ∧ x.s.n ≤ x.s.c ∧ x.s.c ≤ big
theorem IsT.below {w w' : World} {a : Option Addr} {n : Nat} {l : List Tk} (h : IsT w a n l) (hb : Below w.heap.size w w') : IsT w' a n l := ⟨h.len, h.rd.below hb, fun x hx => ⟨(h.sub x hx).1.below hb, (h.sub x hx).2⟩⟩
theorem IsT.at_ {w : World} {a : Option Addr} {n : Nat} {l : List Tk} (h : IsT w a n l) {k : Nat} (hk : k < n) :
    ∃ b o x, a = some ⟨b, o, none⟩ ∧ b < w.heap.size ∧ l[k]? = some x ∧ (IsS w x.s.a x.s.n x.vs ∧ x.s.n ≤ x.s.c ∧ x.s.c ≤ big) ∧ w.cell? ⟨b, o + k, none⟩ = some (.slice x.s.a x.s.n x.s.c) := by
  have hc : l[k]? = some (l[k]'(by have := h.len; omega)) := List.getElem?_eq_getElem _
  obtain ⟨b, o, ha, hb, e⟩ := h.rd.at_ (k := k) (v := encK _) (by rw [List.getElem?_map, hc]; rfl)
  exact ⟨b, o, _, ha, hb, hc, h.sub _ (List.mem_of_getElem? hc), e⟩
/-! ### The corpus -/
structure Cd where
  A : List Ab
  T : List Tk
  X : List Tx
  R : List Tx
  N : List Nd
  H : List Int
  L : List (List UInt8)
structure IsCo (w : World) (c : Cv) (d : Cd) : Prop where
  A : IsA w c.A.a c.A.n d.A
  T : IsT w c.T.a c.T.n d.T
  X : IsX w c.X.a c.X.n d.X
  R : IsX w c.R.a c.R.n d.R
  N : IsN w c.N.a c.N.n d.N
  H : IsI w c.H.a c.H.n d.H
  L : IsS w c.L.a c.L.n d.L
/-- Every count of a corpus fits. -/
structure CFit (c : Cv) : Prop where
  A : c.A.n ≤ c.A.c ∧ c.A.c ≤ big
  T : c.T.n ≤ c.T.c ∧ c.T.c ≤ big
  X : c.X.n ≤ c.X.c ∧ c.X.c ≤ big
  R : c.R.n ≤ c.R.c ∧ c.R.c ≤ big
  N : c.N.n ≤ c.N.c ∧ c.N.c ≤ big
  H : c.H.n ≤ c.H.c ∧ c.H.c ≤ big
  L : c.L.n ≤ c.L.c ∧ c.L.c ≤ big
theorem IsCo.below {w w' : World} {c : Cv} {d : Cd} (h : IsCo w c d) (hb : Below w.heap.size w w') : IsCo w' c d := ⟨h.A.below hb, h.T.below hb, h.X.below hb, h.R.below hb, h.N.below hb, h.H.below hb, h.L.below hb⟩
end Go.Proofs.YtbpkclopcoaikaaGreatDoor
