/- Plain laws of lists: insertion, the reference's union and phrase, shifts, set laws. -/
import Derived.Test.YtjiijhbkbmnhbaaLPhrW
namespace Go.Proofs.Ytjiijhbkbmnhbaa
open Go.RowKit
set_option linter.unusedVariables false
set_option linter.unusedSimpArgs false
theorem asc_one (x : Int) : asc [x] := List.pairwise_singleton _ _
theorem asc_take {l : List Int} (h : asc l) (k : Nat) : asc (l.take k) := List.Pairwise.sublist (List.take_sublist k l) h
theorem asc_drop {l : List Int} (h : asc l) (k : Nat) : asc (l.drop k) := List.Pairwise.sublist (List.drop_sublist k l) h
theorem ins_mem {l : List Int} {x : Int} (h : asc l) (hx : x ∈ l) : uni l [x] = l :=
  asc_ext (asc_uni l [x] h (asc_one x)) h fun z => by
    rw [mem_uni]; simp only [List.mem_singleton]
    exact ⟨fun h => h.elim id (fun e => e ▸ hx), .inl⟩
theorem ins_mid {l : List Int} {k : Nat} {x : Int} (h : asc l) (h1 : ∀ y ∈ l.take k, y < x) (h2 : ∀ y ∈ l.drop k, x < y) : uni l [x] = l.take k ++ [x] ++ l.drop k := by
  refine asc_ext (asc_uni l [x] h (asc_one x)) ?_ fun z => ?_
  · rw [asc_app, asc_app]
    refine ⟨⟨asc_take h k, asc_one x, fun y hy z hz => ?_⟩, asc_drop h k, fun y hy z hz => ?_⟩
    · simp at hz; subst hz; exact h1 y hy
    · rcases List.mem_append.1 hy with hy | hy
      · have := h1 y hy; have := h2 z hz; omega
      · simp at hy; subst hy; exact h2 z hz
  · rw [mem_uni]
    have e : z ∈ l ↔ z ∈ l.take k ∨ z ∈ l.drop k := by
      conv => lhs; rw [← List.take_append_drop k l]
      exact List.mem_append
    rw [e]; simp only [List.mem_append, List.mem_singleton]
    constructor
    · rintro ((h | h) | h) <;> simp [h]
    · rintro ((h | h) | h) <;> simp [h]
theorem fold_ins : ∀ (l r : List Int), asc r → asc (l.foldl (fun r x => uni r [x]) r) ∧ ∀ z, z ∈ l.foldl (fun r x => uni r [x]) r ↔ z ∈ r ∨ z ∈ l
  | [], r, h => ⟨h, by simp⟩
  | x :: l, r, h => by
    obtain ⟨h1, h2⟩ := fold_ins l (uni r [x]) (asc_uni _ _ h (asc_one x))
    refine ⟨h1, fun z => ?_⟩
    rw [List.foldl_cons, h2, mem_uni]
    simp only [List.mem_singleton, List.mem_cons, List.not_mem_nil, false_or, or_assoc]
theorem fold_ins_eq {l r : List Int} (hr : asc r) (hl : asc l) : l.foldl (fun r x => uni r [x]) r = uni r l :=
  asc_ext (fold_ins l r hr).1 (asc_uni _ _ hr hl) fun z => by rw [(fold_ins l r hr).2, mem_uni]
theorem uni_ge : ∀ (a b : List Int), a.length ≤ (uni a b).length
  | [], b => by simp
  | x :: a, [] => by simp [uni]
  | x :: a, y :: b => by
    rcases Int.lt_trichotomy x y with h | h | h
    · rw [uni_lt h]; have := uni_ge a (y :: b); simp at *; omega
    · subst h; rw [uni_eq]; have := uni_ge a b; simp at *; omega
    · rw [uni_gt h]; have := uni_ge (x :: a) b; simp at *; omega
termination_by a b => a.length + b.length
theorem folduni_ge : ∀ (ls : List (List Int)) (out : List Int), out.length ≤ (ls.foldl uni out).length
  | [], out => Nat.le_refl _
  | l :: ls, out => Nat.le_trans (uni_ge out l) (folduni_ge ls (uni out l))
theorem mrg_eq : ∀ (ls : List (List Int)) (out : List Int), out.length ≤ 4096 → mrg out ls = if 4096 < (ls.foldl uni out).length then ([], 2) else (ls.foldl uni out, 0)
  | [], out, h => by
    show (out, 0) = _
    rw [List.foldl_nil, if_neg (by omega)]
  | l :: ls, out, h => by
    unfold mrg
    rw [List.foldl_cons]
    by_cases h1 : 4096 < (uni out l).length
    · rw [if_pos h1, if_pos (Nat.lt_of_lt_of_le h1 (folduni_ge ls _))]
    · rw [if_neg h1, mrg_eq ls (uni out l) (by omega)]
theorem asc_folduni : ∀ (ls : List (List Int)) (out : List Int), asc out → (∀ l ∈ ls, asc l) → asc (ls.foldl uni out)
  | [], _, h, _ => h
  | l :: ls, out, h, hl => asc_folduni ls _ (asc_uni _ _ h (hl l (by simp))) fun k hk => hl k (by simp [hk])
theorem mem_folduni : ∀ (ls : List (List Int)) (out : List Int) (z : Int), z ∈ ls.foldl uni out ↔ z ∈ out ∨ ∃ l ∈ ls, z ∈ l
  | [], out, z => by simp
  | l :: ls, out, z => by
    rw [List.foldl_cons, mem_folduni ls, mem_uni]
    simp only [List.mem_cons, exists_eq_or_imp, or_assoc]
theorem folduni_len : ∀ (ls : List (List Int)) (out : List Int) (B : Nat), (∀ l ∈ ls, l.length ≤ B) → (ls.foldl uni out).length ≤ out.length + ls.length * B
  | [], out, B, _ => by simp
  | l :: ls, out, B, h => by
    have h1 := folduni_len ls (uni out l) B fun k hk => h k (by simp [hk])
    have h2 := uni_len out l
    have h3 := h l (by simp)
    rw [List.foldl_cons, List.length_cons, Nat.succ_mul]
    omega
/-! Phrases. -/
theorem mem_begs {l : List Int} {o z : Int} : z ∈ begs l o ↔ 0 ≤ z ∧ z + o ∈ l := by
  unfold begs
  rw [List.mem_filter, List.mem_map]
  constructor
  · rintro ⟨⟨x, hx, rfl⟩, h⟩
    exact ⟨by simpa using h, by rw [Int.sub_add_cancel]; exact hx⟩
  · rintro ⟨h1, h2⟩
    exact ⟨⟨z + o, h2, by omega⟩, by simpa using h1⟩
theorem mem_both {a b : List Int} {z : Int} : z ∈ both a b ↔ z ∈ a ∧ z ∈ b := by unfold both; rw [List.mem_filter]; simp
theorem mem_less {a b : List Int} {z : Int} : z ∈ less a b ↔ z ∈ a ∧ ¬ z ∈ b := by unfold less; rw [List.mem_filter]; simp
theorem asc_less {a : List Int} (h : asc a) (b : List Int) : asc (less a b) := asc_filter h _
theorem fold_both : ∀ (ps : List (List Int × Int)) (out : List Int), asc out → asc (ps.foldl (fun out p => both out (begs p.1 p.2)) out) ∧ ∀ z, z ∈ ps.foldl (fun out p => both out (begs p.1 p.2)) out ↔ z ∈ out ∧ ∀ p ∈ ps, z ∈ begs p.1 p.2
  | [], out, h => ⟨h, by simp⟩
  | p :: ps, out, h => by
    obtain ⟨h1, h2⟩ := fold_both ps (both out (begs p.1 p.2)) (asc_both h _)
    refine ⟨h1, fun z => ?_⟩
    rw [List.foldl_cons, h2, mem_both]
    simp only [List.mem_cons, forall_eq_or_imp, and_assoc]
/-- The reference's phrase. -/
def phrT (ps : List (List Int × Int)) (p : Int) : Bool := decide (0 ≤ p) && ps.all fun q => decide (p + q.2 ∈ q.1)
def phrR : List (List Int × Int) → List Int
  | [] => []
  | p :: ps => (p.1.map fun x => x - p.2).filter (phrT (p :: ps))
theorem phrP_eq (ps : List (List Int × Int)) (h : ∀ p ∈ ps, asc p.1) : phrR ps = phrP ps := by
  cases ps with
  | nil => rfl
  | cons p ps =>
    have hp := h p (by simp)
    obtain ⟨h1, h2⟩ := fold_both ps (begs p.1 p.2) (asc_begs hp p.2)
    show (p.1.map fun x => x - p.2).filter (phrT (p :: ps)) = ps.foldl _ _
    refine asc_ext (asc_filter ?_ _) h1 fun z => ?_
    · show List.Pairwise _ _
      rw [List.pairwise_map]
      exact hp.imp fun hab => by omega
    · rw [h2, List.mem_filter, mem_begs, List.mem_map]
      simp only [phrT, List.all_cons, Bool.and_eq_true, decide_eq_true_eq, List.all_eq_true]
      constructor
      · rintro ⟨_, h3, h4, h5⟩
        exact ⟨⟨h3, h4⟩, fun q hq => mem_begs.2 ⟨h3, h5 q hq⟩⟩
      · rintro ⟨⟨h3, h4⟩, h5⟩
        exact ⟨⟨z + p.2, h4, by omega⟩, h3, h4, fun q hq => (mem_begs.1 (h5 q hq)).2⟩
/-! Shifts. -/
def shv (l : List Int) (by_ lim : Int) : List Int := (l.map fun x => x + by_).filter fun x => decide (0 ≤ x ∧ x < lim)
def shiftM (l : List Int) (by_ lim : Int) : List Int × Nat :=
  if chkL l = 0 then (if badO by_ = true ∨ lim < 0 ∨ 2147483647 < lim then ([], 1) else (shv l by_ lim, 0)) else ([], chkL l)
theorem shv_yes {l : List Int} {j : Nat} {x b lim : Int} (hx : l[j]? = some x) (h : 0 ≤ x + b) (h2 : x + b < lim) : shv (l.take (j + 1)) b lim = shv (l.take j) b lim ++ [x + b] := by
  unfold shv; rw [List.take_add_one, hx, List.map_append, List.filter_append]; simp; omega
theorem shv_no {l : List Int} {j : Nat} {x b lim : Int} (hx : l[j]? = some x) (h : ¬ (0 ≤ x + b ∧ x + b < lim)) : shv (l.take (j + 1)) b lim = shv (l.take j) b lim := by
  unfold shv; rw [List.take_add_one, hx, List.map_append, List.filter_append]; simp; omega
theorem shv_len (l : List Int) (b lim : Int) : (shv l b lim).length ≤ l.length := by
  have := List.length_filter_le (fun x => decide (0 ≤ x ∧ x < lim)) (l.map fun x => x + b)
  rw [List.length_map] at this
  exact this
theorem shv_back {b : List Int} {y : Int} (hv : ∀ x ∈ b, inR x) (hy : 0 ≤ y) (hm : ¬ (2147483647 : Int) ∈ b) : shv b (-y) 2147483647 = begs b y := by
  unfold shv begs
  have e : (b.map fun x => x + -y) = b.map fun x => x - y := rfl
  rw [e]
  apply List.filter_congr
  intro z hz
  obtain ⟨x, hx, rfl⟩ := List.mem_map.1 hz
  have h1 := hv x hx
  unfold inR at h1
  have h2 : x ≠ 2147483647 := fun e => hm (e ▸ hx)
  rw [decide_eq_decide]
  omega
/-! Ranges. -/
def rng (s : Int) (n : Nat) : List Int := (List.range n).map fun i : Nat => s + (i : Int)
theorem rng_len (s : Int) (n : Nat) : (rng s n).length = n := by simp [rng]
theorem mem_rng {s z : Int} {n : Nat} : z ∈ rng s n ↔ s ≤ z ∧ z < s + n := by
  unfold rng
  rw [List.mem_map]
  constructor
  · rintro ⟨i, hi, rfl⟩
    rw [List.mem_range] at hi; omega
  · rintro ⟨h1, h2⟩
    exact ⟨(z - s).toNat, List.mem_range.2 (by omega), by omega⟩
theorem rng_succ (s : Int) (n : Nat) : rng s (n + 1) = rng s n ++ [s + n] := by unfold rng; rw [List.range_succ, List.map_append]; rfl
theorem asc_rng (s : Int) : ∀ n : Nat, asc (rng s n)
  | 0 => asc_nil
  | n + 1 => by
    rw [rng_succ, asc_app]
    refine ⟨asc_rng s n, asc_one _, fun x hx y hy => ?_⟩
    simp at hy; subst hy
    exact (mem_rng.1 hx).2
theorem uni_rng (n m o : Nat) (h1 : o ≤ n) (h2 : o ≤ m) : uni (rng 0 n) (rng ((n : Int) - o) m) = rng 0 (n + m - o) :=
  asc_ext (asc_uni _ _ (asc_rng _ _) (asc_rng _ _)) (asc_rng _ _) fun z => by rw [mem_uni, mem_rng, mem_rng, mem_rng]; omega
theorem uni_rng' (n m o : Nat) (h1 : o ≤ n) (h2 : o ≤ m) : uni (rng ((n : Int) - o) m) (rng 0 n) = rng 0 (n + m - o) :=
  asc_ext (asc_uni _ _ (asc_rng _ _) (asc_rng _ _)) (asc_rng _ _) fun z => by rw [mem_uni, mem_rng, mem_rng, mem_rng]; omega
theorem uni_rng2 (n q : Nat) (h : n ≤ q) : uni (rng 0 q) (rng 0 n) = rng 0 q :=
  asc_ext (asc_uni _ _ (asc_rng _ _) (asc_rng _ _)) (asc_rng _ _) fun z => by rw [mem_uni, mem_rng, mem_rng]; omega
/-! Set laws. -/
def okL (l : List Int) : Prop := (∀ x ∈ l, inR x) ∧ asc l
theorem okL_chk {l : List Int} (h : okL l) (hn : l.length ≤ 4096) : chkL l = 0 := (chkL_zero l).2 ⟨hn, h⟩
theorem okL_both {a : List Int} (h : okL a) (b : List Int) : okL (both a b) := ⟨fun x hx => h.1 x (mem_both.1 hx).1, asc_both h.2 b⟩
theorem okL_less {a : List Int} (h : okL a) (b : List Int) : okL (less a b) := ⟨fun x hx => h.1 x (mem_less.1 hx).1, asc_less h.2 b⟩
theorem okL_uni {a b : List Int} (h : okL a) (k : okL b) : okL (uni a b) := ⟨fun x hx => ((mem_uni x a b).1 hx).elim (h.1 x) (k.1 x), asc_uni a b h.2 k.2⟩


theorem share_len (a b : List Int) : (both a b).length + (less a b).length = a.length := by
  unfold both less
  induction a with
  | nil => rfl
  | cons x a ih =>
    by_cases h : x ∈ b
    · rw [List.filter_cons_of_pos (by simpa using h), List.filter_cons_of_neg (by simpa using h)]; simp; omega
    · rw [List.filter_cons_of_neg (by simpa using h), List.filter_cons_of_pos (by simpa using h)]; simp; omega
theorem share {a : List Int} (h : asc a) (b : List Int) : uni (both a b) (less a b) = a :=
  asc_ext (asc_uni _ _ (asc_both h _) (asc_less h _)) h fun z => by
    rw [mem_uni, mem_both, mem_less]
    by_cases hz : z ∈ b <;> simp [hz]
theorem three {a b : List Int} (h : asc a) (k : asc b) : uni (uni (less a b) (both a b)) (less b a) = uni a b :=
  asc_ext (asc_uni _ _ (asc_uni _ _ (asc_less h _) (asc_both h _)) (asc_less k _)) (asc_uni _ _ h k) fun z => by
    rw [mem_uni, mem_uni, mem_uni, mem_both, mem_less, mem_less]
    by_cases hz : z ∈ b <;> by_cases hy : z ∈ a <;> simp [hz, hy]
theorem less_uni (a b : List Int) : less a (uni a b) = [] := by
  rw [List.eq_nil_iff_forall_not_mem]
  intro z hz
  obtain ⟨h1, h2⟩ := mem_less.1 hz
  exact h2 ((mem_uni z a b).2 (.inl h1))
theorem less_dist {a b : List Int} (h : asc a) (k : asc b) (c : List Int) : less (uni a b) c = uni (less a c) (less b c) :=
  asc_ext (asc_less (asc_uni _ _ h k) _) (asc_uni _ _ (asc_less h _) (asc_less k _)) fun z => by
    rw [mem_uni, mem_less, mem_less, mem_less, mem_uni]
    by_cases hz : z ∈ c <;> simp [hz]
theorem mergeM_two {a b : List Int} (ha : okL a) (hb : okL b) (hn : a.length + b.length ≤ 4096) : mergeM [a, b] = (uni a b, 0) := by
  unfold mergeM
  have h1 := uni_len a b
  rw [if_pos ((chkA_zero _).2 fun l hl => by
    simp at hl
    rcases hl with rfl | rfl
    · exact okL_chk ha (by omega)
    · exact okL_chk hb (by omega)), mrg_eq _ _ (by simp)]
  have e : List.foldl uni [] [a, b] = uni a b := by simp [uni]
  rw [e, if_neg (by omega)]
theorem mergeM_three {a b c : List Int} (ha : okL a) (hb : okL b) (hc : okL c) (hn : a.length + b.length + c.length ≤ 4096) : mergeM [a, b, c] = (uni (uni a b) c, 0) := by
  unfold mergeM
  have h1 := uni_len a b
  have h2 := uni_len (uni a b) c
  rw [if_pos ((chkA_zero _).2 fun l hl => by
    simp at hl
    rcases hl with rfl | rfl | rfl
    · exact okL_chk ha (by omega)
    · exact okL_chk hb (by omega)
    · exact okL_chk hc (by omega)), mrg_eq _ _ (by simp)]
  have e : List.foldl uni [] [a, b, c] = uni (uni a b) c := by simp [uni]
  rw [e, if_neg (by omega)]
/-! Joins. -/
theorem begs_zero {a : List Int} (h : ∀ x ∈ a, inR x) : begs a 0 = a := by
  unfold begs
  have e : (a.map fun x => x - 0) = a := by simp
  rw [e, List.filter_eq_self]
  intro x hx
  have := (h x hx).1
  simpa using this
theorem join2 {a b : List Int} {y : Int} (ha : okL a) : phrP [(a, 0), (b, y)] = both a (begs b y) := by
  show both (begs a 0) (begs b y) = _
  rw [begs_zero ha.1]
theorem join3 {a b : List Int} {y : Int} (ha : okL a) (hb : okL b) : phrP [(b, y), (a, 0), (b, y)] = both a (begs b y) := by
  show both (both (begs b y) (begs a 0)) (begs b y) = _
  rw [begs_zero ha.1]
  refine asc_ext (asc_both (asc_both (asc_begs hb.2 y) _) _) (asc_both ha.2 _) fun z => ?_
  rw [mem_both, mem_both, mem_both]
  constructor
  · rintro ⟨⟨h1, h2⟩, h3⟩; exact ⟨h2, h1⟩
  · rintro ⟨h1, h2⟩; exact ⟨⟨h2, h1⟩, h2⟩
theorem less_both (a b : List Int) : less (both a b) a = [] := by
  rw [List.eq_nil_iff_forall_not_mem]
  intro z hz
  obtain ⟨h1, h2⟩ := mem_less.1 hz
  exact h2 (mem_both.1 h1).1
end Go.Proofs.Ytjiijhbkbmnhbaa
