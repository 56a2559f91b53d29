/- The plain law of the journal: lists of bytes alone. -/
import Derived.Test.YthkncfenhfieoaaBurstM
namespace Go.Proofs.Ythkncfenhfieoaa
set_option linter.unusedVariables false

/-- Four bytes as a number, the most significant first; and back. -/
def be4 (a b c d : UInt8) : Nat := a.toNat * 16777216 + b.toNat * 65536 + c.toNat * 256 + d.toNat
def be4L (n : Nat) : List UInt8 := [UInt8.ofNat (n / 16777216), UInt8.ofNat (n / 65536), UInt8.ofNat (n / 256), UInt8.ofNat n]
theorem be4_lt (a b c d : UInt8) : be4 a b c d < 4294967296 := by
  have := a.toNat_lt
  have := b.toNat_lt
  have := c.toNat_lt
  have := d.toNat_lt
  unfold be4; omega
theorem be4_be4L (n : Nat) (h : n < 4294967296) : be4 (UInt8.ofNat (n / 16777216)) (UInt8.ofNat (n / 65536)) (UInt8.ofNat (n / 256)) (UInt8.ofNat n) = n := by
  unfold be4
  simp only [UInt8.toNat_ofNat']
  omega
theorem be4L_be4 (a b c d : UInt8) : be4L (be4 a b c d) = [a, b, c, d] := by
  have := a.toNat_lt
  have := b.toNat_lt
  have := c.toNat_lt
  have := d.toNat_lt
  have e : ∀ (x : UInt8) (n : Nat), n % 256 = x.toNat → UInt8.ofNat n = x := fun x n h => UInt8.toNat_inj.1 (by rw [UInt8.toNat_ofNat']; exact h)
  unfold be4L be4
  rw [e a _ (by omega), e b _ (by omega), e c _ (by omega), e d _ (by omega)]
theorem be4L_length (n : Nat) : (be4L n).length = 4 := rfl

abbrev Rec := Int × List UInt8
/-- A record that may be written. -/
def okR (r : Rec) : Prop := (r.1 = 1 ∨ r.1 = 2) ∧ r.2.length ≤ 1048576
def kb (k : Int) : UInt8 := UInt8.ofNat k.toNat
def crcN (l : List UInt8) : Nat := (crc l).toNat
theorem crcN_lt (l : List UInt8) : crcN l < 4294967296 := (crc l).isLt
/-- The bytes of a record. -/
def encR (r : Rec) : List UInt8 := be4L r.2.length ++ (be4L (crcN (kb r.1 :: r.2)) ++ (kb r.1 :: r.2))
theorem encR_length (r : Rec) : (encR r).length = 9 + r.2.length := by simp [encR, be4L]; omega
def encL (l : List Rec) : List UInt8 := l.flatMap encR
theorem encL_cons (r : Rec) (l : List Rec) : encL (r :: l) = encR r ++ encL l := rfl
theorem encL_app (l m : List Rec) : encL (l ++ m) = encL l ++ encL m := by simp [encL]
theorem encL_nil : encL [] = [] := rfl
theorem encL_snoc (l : List Rec) (r : Rec) : encL (l ++ [r]) = encL l ++ encR r := by rw [encL_app]; simp [encL]
/-- The record at the beginning. -/
def chkM (n c : Nat) (k : UInt8) (t : List UInt8) : Option Rec :=
  if n ≤ 1048576 ∧ n ≤ t.length ∧ (k = 1 ∨ k = 2) ∧ crcN (k :: t.take n) = c then some ((k.toNat : Int), t.take n) else none
theorem chkM_some {n c : Nat} {k : UInt8} {t : List UInt8} {r : Rec} (h : chkM n c k t = some r) : n ≤ 1048576 ∧ n ≤ t.length ∧ (k = 1 ∨ k = 2) ∧ crcN (k :: t.take n) = c ∧ r = ((k.toNat : Int), t.take n) := by
  unfold chkM at h
  by_cases hc : n ≤ 1048576 ∧ n ≤ t.length ∧ (k = 1 ∨ k = 2) ∧ crcN (k :: t.take n) = c
  · rw [if_pos hc] at h
    injection h with h
    exact ⟨hc.1, hc.2.1, hc.2.2.1, hc.2.2.2, h.symm⟩
  · rw [if_neg hc] at h
    cases h
def nextM : List UInt8 → Option Rec
  | a :: b :: c :: d :: e :: f :: g :: h :: k :: t => chkM (be4 a b c d) (be4 e f g h) k t
  | _ => none
theorem kb_of (k : UInt8) : kb (k.toNat : Int) = k := by simp [kb]
theorem byte12 {k : UInt8} (h : k = 1 ∨ k = 2) : (k.toNat : Int) = 1 ∨ (k.toNat : Int) = 2 := by
  rcases h with h | h
  · left; rw [h]; decide
  · right; rw [h]; decide
theorem parse_enc {n m : Nat} {k : UInt8} {t : List UInt8} {a b c d e f g h : UInt8} (hn : be4L n = [a, b, c, d]) (hm : be4L m = [e, f, g, h]) (h2 : n ≤ t.length) (h4 : crcN (k :: t.take n) = m) :
    a :: b :: c :: d :: e :: f :: g :: h :: k :: t = encR ((k.toNat : Int), t.take n) ++ t.drop n := by
  have hl : (t.take n).length = n := by simp; omega
  have e1 : encR ((k.toNat : Int), t.take n) = [a, b, c, d] ++ ([e, f, g, h] ++ (k :: t.take n)) := by
    unfold encR
    rw [kb_of, hl, h4, hn, hm]
  rw [e1]
  simp only [List.cons_append, List.nil_append, List.take_append_drop]
theorem nextM_some {s : List UInt8} {r : Rec} (h : nextM s = some r) : okR r ∧ ∃ t, s = encR r ++ t := by
  unfold nextM at h
  split at h
  · rename_i a b c d e f g h' k t
    obtain ⟨h1, h2, h3, h4, rfl⟩ := chkM_some h
    clear h
    have hp := parse_enc (be4L_be4 a b c d) (be4L_be4 e f g h') h2 h4
    generalize be4 a b c d = n at *
    refine ⟨⟨byte12 h3, Nat.le_trans (Nat.le_of_eq (List.length_take_of_le h2)) h1⟩, t.drop n, hp⟩
  · cases h
theorem nextM_enc {r : Rec} (hr : okR r) (t : List UInt8) : nextM (encR r ++ t) = some r := by
  obtain ⟨k, p⟩ := r
  obtain ⟨h1, h2⟩ := hr
  simp only at h1 h2
  have e : encR (k, p) ++ t = UInt8.ofNat (p.length / 16777216) :: UInt8.ofNat (p.length / 65536) :: UInt8.ofNat (p.length / 256) :: UInt8.ofNat p.length ::
      UInt8.ofNat (crcN (kb k :: p) / 16777216) :: UInt8.ofNat (crcN (kb k :: p) / 65536) :: UInt8.ofNat (crcN (kb k :: p) / 256) :: UInt8.ofNat (crcN (kb k :: p)) :: kb k :: (p ++ t) := by
    simp [encR, be4L]
  rw [e]
  unfold nextM
  simp only []
  rw [be4_be4L _ (by omega), be4_be4L _ (crcN_lt _)]
  unfold chkM
  rw [List.take_left' rfl, if_pos ⟨h2, by simp, by rcases h1 with rfl | rfl <;> simp [kb], rfl⟩]
  rcases h1 with rfl | rfl <;> rfl
/-- What the scan of a file is. -/
structure IsScan (s : List UInt8) (l : List Rec) (rest : List UInt8) : Prop where
  eq : s = encL l ++ rest
  ok : ∀ r ∈ l, okR r
  stop : nextM rest = none
theorem IsScan.uniq : ∀ {l m : List Rec} {s x y : List UInt8}, IsScan s l x → IsScan s m y → l = m ∧ x = y
  | [], [], s, x, y, h, g => ⟨rfl, by rw [← List.nil_append x, ← List.nil_append y]; exact h.eq.symm.trans g.eq⟩
  | [], r :: m, s, x, y, h, g => by
    have h1 := h.eq
    rw [encL_nil, List.nil_append] at h1
    have := nextM_enc (g.ok r (by simp)) (encL m ++ y)
    rw [← List.append_assoc, ← encL_cons, ← g.eq, h1, h.stop] at this
    cases this
  | r :: l, [], s, x, y, h, g => by
    have h1 := g.eq
    rw [encL_nil, List.nil_append] at h1
    have := nextM_enc (h.ok r (by simp)) (encL l ++ x)
    rw [← List.append_assoc, ← encL_cons, ← h.eq, h1, g.stop] at this
    cases this
  | r :: l, q :: m, s, x, y, h, g => by
    have h1 := nextM_enc (h.ok r (by simp)) (encL l ++ x)
    have h2 := nextM_enc (g.ok q (by simp)) (encL m ++ y)
    rw [← List.append_assoc, ← encL_cons, ← h.eq] at h1
    rw [← List.append_assoc, ← encL_cons, ← g.eq, h1] at h2
    injection h2 with h2
    subst h2
    have h3 := h.eq.symm.trans g.eq
    rw [encL_cons, encL_cons, List.append_assoc, List.append_assoc] at h3
    have h4 := List.append_cancel_left h3
    have := IsScan.uniq (s := encL l ++ x) ⟨rfl, fun r' hr' => h.ok r' (by simp [hr']), h.stop⟩ ⟨h4, fun r' hr' => g.ok r' (by simp [hr']), g.stop⟩
    exact ⟨by rw [this.1], this.2⟩
/-- What stands behind the records. -/
def stateM (rest : List UInt8) : Nat :=
  if rest = [] then 0 else if rest.length < 9 ∨ rest.length < 9 + be4 (rest.getD 0 0) (rest.getD 1 0) (rest.getD 2 0) (rest.getD 3 0) ∨ rest.getLast? = some 0 then 1 else 2
end Go.Proofs.Ythkncfenhfieoaa
