/- Slices of slices, the place of the part kept apart from its value. Nothing of the program is named here. -/
import Derived.Test.YtnflffhmnbjelaaKeep
import Derived.ChangeKeysEq
namespace Go.Proofs.Ytnflffhmnbjelaa
open Go.RowKit
set_option linter.unusedVariables false
section
variable {P : Program} {w : World}
/-- A part of a slice lies in the slice's block. -/
def PartOf (A A' : Option Addr) : Prop := ∀ b, A' = some b → ∃ b0, A = some b0 ∧ b.block = b0.block
theorem rd_part {A : Option Addr} {xs : List Value} (h : Rd w A xs) (l c : Nat) (hc : c = l → xs.length ≤ l) : Rd w (if c = l then A else A.map (·.add (l * 1))) (xs.drop l) := by
  by_cases hcl : c = l
  · exact .inl (List.drop_eq_nil_of_le (hc hcl))
  · rw [if_neg hcl]
    rcases h with rfl | ⟨b, o, rfl, hb, hcell⟩
    · exact .inl (by simp)
    · refine .inr ⟨b, o + l, by simp [Addr.add], hb, fun j v hv => ?_⟩
      rw [List.getElem?_drop] at hv
      have := hcell (l + j) v hv
      rw [show o + l + j = o + (l + j) by omega]
      exact this
theorem part_of {A : Option Addr} (l c : Nat) : PartOf A (if c = l then A else A.map (·.add (l * 1))) := by
  intro b hb
  by_cases hcl : c = l
  · rw [if_pos hcl] at hb; exact ⟨b, hb, rfl⟩
  · rw [if_neg hcl] at hb
    obtain ⟨b0, rfl, rfl⟩ := Option.map_eq_some_iff.1 hb
    exact ⟨b0, rfl, by simp [Addr.add]; split <;> rfl⟩
theorem rd_back {w2 : World} {A A' : Option Addr} {xs : List Value} {l : Nat} (h : Rd w2 A' (xs.drop l)) (hp : PartOf A A') (h0 : Rd w A xs) (hb : Below w.heap.size w w2) : Rd w A' (xs.drop l) := by
  rcases h0 with rfl | ⟨b, o, rfl, hlt, _⟩
  · exact .inl (by simp)
  · rcases h with e | ⟨b', o', rfl, hlt', hc'⟩
    · exact .inl e
    · obtain ⟨b0, e1, e2⟩ := hp _ rfl
      injection e1 with e1
      subst e1
      have e2 : b' = b := e2
      subst e2
      exact .inr ⟨b', o', rfl, hlt, fun j v hv => by rw [← Below.cell hb (p := ⟨b', o' + j, none⟩) hlt]; exact hc' j v hv⟩
theorem part_none {A : Option Addr} (l c : Nat) (h : (if c = l then A else A.map (·.add (l * 1))) = none) : A = none := by
  by_cases hcl : c = l
  · rwa [if_pos hcl] at h
  · rw [if_neg hcl] at h; simpa using h
theorem wpList_slice_lo {ops : Array Oper} {rest : List Oper} {o : Oper} {a : Act} {Q : Exit → Act → World → Prop} (hgd : o.guard = none) (x lo : Operand) (t : TypeId) (hop : o.op = .slice t x (some lo) none none)
    (ht : P.underlying t = some (.slice (P.elem t))) (i : TypeInfo) (hi : P.info? (P.elem t) = some i) (h1 : i.size = 1)
    (A : Option Addr) (n c l : Nat) (k : IntKind) (L : Int) (hL : L = (l : Int)) (hx : a.eval x = .slice A n c) (hlo : a.eval lo = .int k L) (hln : l ≤ n) (hnc : n ≤ c) (hcn : A = none → c = 0) (xs : List Value) (hr : Rd w A xs) (hxl : xs.length = n)
    (h : ∀ A' c', Rd w A' (xs.drop l) → n - l ≤ c' → c' ≤ c → (A' = none → c' = 0) → PartOf A A' → wpList P ops Q rest (a.put o.dst (.slice A' (n - l) c')) w) : wpList P ops Q (o :: rest) a w := by
  refine wpList_plain hgd fun K hK => ?_
  subst hL
  have hsz : (sizeOf (P.elem t)).run P w = .ok 1 w := by rw [run_sizeOf w hi]; simp [Program.cellsOf, hi, h1]
  have hrun := run_slice_l (P := P) (w := w) t A n c ht k (l : Int) (by omega) (by omega)
  rw [hsz] at hrun
  simp only [Int.toNat_natCast, Result.andThen] at hrun
  unfold Oper.wp
  simp [execOp, hop, hx, hlo, run_sliceAt_slice w t _ _ _ _ ht, hrun, Result.andThen]
  exact hK _ _ (h _ _ (rd_part hr l c (by omega)) (by omega) (by omega) (fun e => by have := hcn (part_none l c e); omega) (part_of l c))
theorem wpList_slice_lh {ops : Array Oper} {rest : List Oper} {o : Oper} {a : Act} {Q : Exit → Act → World → Prop} (hgd : o.guard = none) (x lo hi_ : Operand) (t : TypeId) (hop : o.op = .slice t x (some lo) (some hi_) none)
    (ht : P.underlying t = some (.slice (P.elem t))) (i : TypeInfo) (hi : P.info? (P.elem t) = some i) (h1 : i.size = 1)
    (A : Option Addr) (n c l m : Nat) (k k2 : IntKind) (L M : Int) (hL : L = (l : Int)) (hM : M = (m : Int)) (hx : a.eval x = .slice A n c) (hlo : a.eval lo = .int k L) (hhi : a.eval hi_ = .int k2 M) (hlm : l ≤ m) (hmn : m ≤ n) (hnc : n ≤ c) (xs : List Value) (hr : Rd w A xs) (hxl : xs.length = n)
    (h : ∀ A' c', Rd w A' ((xs.take m).drop l) → m - l ≤ c' → PartOf A A' → wpList P ops Q rest (a.put o.dst (.slice A' (m - l) c')) w) : wpList P ops Q (o :: rest) a w := by
  refine wpList_plain hgd fun K hK => ?_
  subst hL hM
  have hsz : (sizeOf (P.elem t)).run P w = .ok 1 w := by rw [run_sizeOf w hi]; simp [Program.cellsOf, hi, h1]
  have hrun := run_slice_lh (P := P) (w := w) t A n c ht k k2 (l : Int) (m : Int) (by omega) (by omega) (by omega)
  rw [hsz] at hrun
  simp only [Int.toNat_natCast, Result.andThen] at hrun
  unfold Oper.wp
  simp [execOp, hop, hx, hlo, hhi, run_sliceAt_slice w t _ _ _ _ ht, hrun, Result.andThen]
  exact hK _ _ (h _ _ (rd_part (hr.take m) l c (by rw [List.length_take]; omega)) (by omega) (part_of l c))
end
end Go.Proofs.Ytnflffhmnbjelaa
