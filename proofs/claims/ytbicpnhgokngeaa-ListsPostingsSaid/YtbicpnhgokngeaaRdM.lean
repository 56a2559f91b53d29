/- Reading bits: the plain law, and a Reader in memory. -/
import Derived.Test.YtbicpnhgokngeaaUnpW
namespace Go.Proofs.Ytbicpnhgokngeaa
open Go.RowKit
set_option linter.unusedVariables false
/-- The number that bits stand for. -/
def numF (v : Nat) (l : List Bool) : Nat := l.foldl (fun v x => 2 * v + x.toNat) v
def numB (l : List Bool) : Nat := numF 0 l
theorem numF_lt (l : List Bool) (v k : Nat) (h : v < 2 ^ k) : numF v l < 2 ^ (k + l.length) := by
  induction l generalizing v k with
  | nil => simpa [numF] using h
  | cons x l ih =>
    have := ih (2 * v + x.toNat) (k + 1) (by rw [Nat.pow_succ]; cases x <;> simp <;> omega)
    rw [List.length_cons, show k + (l.length + 1) = k + 1 + l.length by omega]
    exact this
theorem numB_lt (l : List Bool) : numB l < 2 ^ l.length := by
  have := numF_lt l 0 0 (by decide)
  unfold numB
  simpa using this
theorem numB_snoc (l : List Bool) (x : Bool) : numB (l ++ [x]) = 2 * numB l + x.toNat := by simp [numB, numF, List.foldl_append]
theorem take_snoc (l : List Bool) (k : Nat) (x : Bool) (h : l[k]? = some x) : l.take (k + 1) = l.take k ++ [x] := by rw [List.take_add_one, h]; rfl
/-- The bits 0 in front of a bit 1: how many, and the error. -/
def zr : Nat → List Bool → Nat → Nat × Nat
  | _, [], _ => (0, 10)
  | _, true :: _, n => (n, 0)
  | 0, false :: _, _ => (0, 9)
  | m + 1, false :: l, n => zr m l (n + 1)
theorem zr_le : ∀ (m : Nat) (l : List Bool) (n : Nat), (zr m l n).1 ≤ n + m ∧ ((zr m l n).2 = 0 → (zr m l n).1 < n + l.length)
  | _, [], _ => by simp [zr]
  | m, true :: l, n => by cases m <;> simp [zr]
  | 0, false :: l, _ => by simp [zr]
  | m + 1, false :: l, n => by
    have := zr_le m l (n + 1)
    simp only [zr, List.length_cons]
    constructor
    · omega
    · intro h; have := this.2 h; omega
def zerosM (L : List Bool) (at_ most : Nat) : Nat × Nat := zr most (L.drop at_) 0
def takeM (L : List Bool) (at_ n : Nat) : Nat := numB ((L.drop at_).take n)
/-- What a call reads: the number, the position behind it, the error. -/
def gammaM (L : List Bool) (at_ : Nat) : Nat × Nat × Nat :=
  if (zerosM L at_ 63).2 = 0 then
    (if L.length - at_ < 2 * (zerosM L at_ 63).1 + 1 then (0, at_, 10) else (takeM L (at_ + (zerosM L at_ 63).1) ((zerosM L at_ 63).1 + 1), at_ + 2 * (zerosM L at_ 63).1 + 1, 0))
  else (0, at_, (zerosM L at_ 63).2)
def deltaM (L : List Bool) (at_ : Nat) : Nat × Nat × Nat :=
  if (gammaM L at_).2.2 = 0 then
    (if 64 < (gammaM L at_).1 then (0, at_, 9) else
      if L.length - (gammaM L at_).2.1 < (gammaM L at_).1 - 1 then (0, at_, 10) else
        (2 ^ ((gammaM L at_).1 - 1) + takeM L (gammaM L at_).2.1 ((gammaM L at_).1 - 1), (gammaM L at_).2.1 + ((gammaM L at_).1 - 1), 0))
  else (0, at_, (gammaM L at_).2.2)
def bitsM (L : List Bool) (at_ : Nat) (n : Int) : Nat × Nat × Nat :=
  if n < 0 ∨ 64 < n then (0, at_, 1) else if L.length - at_ < n.toNat then (0, at_, 10) else (takeM L at_ n.toNat, at_ + n.toNat, 0)
def unaryM (L : List Bool) (at_ : Nat) : Nat × Nat × Nat :=
  if (zerosM L at_ 4096).2 = 0 then ((zerosM L at_ 4096).1, at_ + (zerosM L at_ 4096).1 + 1, 0) else (0, at_, (zerosM L at_ 4096).2)
def readM (L : List Bool) (at_ : Nat) (k n : Int) : Nat × Nat × Nat := if k = 0 then bitsM L at_ n else if k = 1 then unaryM L at_ else if k = 2 then gammaM L at_ else deltaM L at_

/-- A Reader in block g. -/
def RdS (w : World) (base g : Nat) (L : List Bool) (pos : Nat) : Prop :=
  ∃ A m c p, w.heap[g]? = some (.cells #[.slice A m c, .int .i64 (L.length : Int), .int .i64 (pos : Int)] 73 (0, 0)) ∧ base ≤ g ∧ BRd w A p ∧ m = p.length ∧ L.length ≤ 8 * m ∧ unpackL p L.length = L ∧ (∀ b, A = some b → b.block ≠ g) ∧ pos ≤ L.length ∧ L.length ≤ 100000
theorem RdS.below {w w' : World} {base g : Nat} {L : List Bool} {pos : Nat} (h : RdS w base g L pos) (hb : Below w.heap.size w w') : RdS w' base g L pos := by
  obtain ⟨A, m, c, p, h1, h2, h3, h4⟩ := h
  exact ⟨A, m, c, p, (hb.block g (Array.getElem?_eq_some_iff.1 h1).1).trans h1, h2, h3.below hb, h4⟩
theorem RdS.lt {w : World} {base g : Nat} {L : List Bool} {pos : Nat} (h : RdS w base g L pos) : g < w.heap.size := by
  obtain ⟨A, m, c, p, h1, _⟩ := h
  exact (Array.getElem?_eq_some_iff.1 h1).1
theorem RdS.set {w : World} {base g : Nat} {L : List Bool} {pos pos' : Nat} (h : RdS w base g L pos) (hp : pos' ≤ L.length) : RdS (w.setCell ⟨g, 2, none⟩ (.int .i64 (pos' : Int))) base g L pos' := by
  obtain ⟨A, m, c, p, h1, h2, h3, h4, h5, h6, h7, h8, h9⟩ := h
  refine ⟨A, m, c, p, ?_, h2, ?_, h4, h5, h6, h7, hp, h9⟩
  · rw [heap_setCell_same w g 2 _ _ _ h1]; simp
  · rcases h3 with h | ⟨b, o, rfl, hb, hc⟩
    · exact .inl h
    · refine .inr ⟨b, o, rfl, by simpa [World.setCell] using hb, fun k v hv => ?_⟩
      rw [World.cell?_of_block (a := ⟨b, o + k, none⟩) (heap_setCell_other w _ b _ (h7 _ rfl))]
      exact hc k v hv
end Go.Proofs.Ytbicpnhgokngeaa
