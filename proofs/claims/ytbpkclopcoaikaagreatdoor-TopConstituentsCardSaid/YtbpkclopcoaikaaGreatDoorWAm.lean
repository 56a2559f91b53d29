/- Plain facts about the nodes of a valid corpus: intervals, and the last node that contains tokens. -/
import Derived.Test.YtbpkclopcoaikaaGreatDoorUqWm
import Derived.Test.YtbpkclopcoaikaaGreatDoorUbWm
import Derived.Test.YtbpkclopcoaikaaGreatDoorTgWm
namespace Go.Proofs.YtbpkclopcoaikaaGreatDoor
open Go.RowKit
set_option linter.unusedVariables false
set_option linter.unusedSimpArgs false
theorem rd_row {w : World} {lb : Nat} {xs : List Value} {e : TypeId} {fr : Nat × Nat} (h : w.heap[lb]? = some (.cells xs.toArray e fr)) : Rd w (some ⟨lb, 0, none⟩) xs :=
  .inr ⟨lb, 0, rfl, (Array.getElem?_eq_some_iff.1 h).1, fun j v hv => by rw [cell_of_row w lb _ _ _ _ h]; simpa using hv⟩
theorem dep_le (p : List Int) : ∀ (f i : Nat), dep p f i ≤ f
  | 0, _ => Nat.le_refl _
  | f + 1, i => by
    rw [dep]
    cases hx : p[i]? with
    | none => exact Nat.zero_le _
    | some x =>
      simp only []
      by_cases h : x < 0
      · rw [if_pos h]; omega
      · rw [if_neg h]; have := dep_le p f x.toNat; omega
def bN (l : List Nd) (i : Nat) : Int := match l[i]? with
  | some x => x.b
  | none => 0
def eN (l : List Nd) (i : Nat) : Int := match l[i]? with
  | some x => x.e
  | none => 0
theorem bN_at {l : List Nd} {i : Nat} {x : Nd} (h : l[i]? = some x) : bN l i = x.b := by unfold bN; rw [h]
theorem eN_at {l : List Nd} {i : Nat} {x : Nd} (h : l[i]? = some x) : eN l i = x.e := by unfold eN; rw [h]
theorem nd_at {l : List Nd} {i : Nat} {v : Int} (h : (l.map Nd.p)[i]? = some v) : ∃ x, l[i]? = some x ∧ x.p = v := by
  rw [List.getElem?_map] at h
  cases hx : l[i]? with
  | none => rw [hx] at h; simp at h
  | some x => rw [hx] at h; exact ⟨x, rfl, by simpa using h⟩
theorem nodes_preo {l : List Nd} {X : List Tx} (h : NodesOk l X) : Preo (l.map Nd.p) := fun i v hv => by
  obtain ⟨x, hx, rfl⟩ := nd_at hv
  exact (h i x hx).pre
theorem nodes_ivl {l : List Nd} {X : List Tx} (h : NodesOk l X) : Ivl (l.map Nd.p) (bN l) (eN l) := {
  preo := nodes_preo h
  ne := fun i hi => by
    rw [List.length_map] at hi
    have hx := List.getElem?_eq_getElem hi
    rw [bN_at hx, eN_at hx]
    exact (h i _ hx).ne
  inn := fun k i hp => by
    obtain ⟨x, hx, hxp⟩ := nd_at hp
    have hk := preo_lt (nodes_preo h) (i + 1) i _ (by omega) hp
    have hi := (List.getElem?_eq_some_iff.1 hx).1
    have hy := List.getElem?_eq_getElem (l := l) (i := k) (by omega)
    rw [bN_at hx, eN_at hx, bN_at hy, eN_at hy]
    exact (h i _ hx).inn k _ hxp hy
  sis := fun s i hsi hi he hm => by
    rw [List.length_map] at hi
    have hx := List.getElem?_eq_getElem hi
    have hy := List.getElem?_eq_getElem (l := l) (i := s) (by omega)
    rw [bN_at hx, eN_at hy]
    rw [List.getElem?_map, List.getElem?_map, hx, hy] at he
    refine (h i _ hx).sis s _ hsi hy (by simpa using he) (fun m z h1 h2 hz hzp => ?_)
    refine hm m h1 h2 ?_
    rw [List.getElem?_map, List.getElem?_map, hx, hz]
    simp [hzp] }
/-- The last of a range that has a property. -/
theorem last_filter (f : Nat → Bool) : ∀ k : Nat, match ((List.range k).filter f).getLast? with
    | some t => t < k ∧ f t = true ∧ ∀ m, t < m → m < k → f m = false
    | none => ∀ m, m < k → f m = false
  | 0 => by simp
  | k + 1 => by
    have ih := last_filter f k
    rw [List.range_succ, List.filter_append]
    by_cases hf : f k = true
    · have e : List.filter f [k] = [k] := by simp [hf]
      rw [e, List.getLast?_concat]
      exact ⟨by omega, hf, fun m h1 h2 => by omega⟩
    · have hf' : f k = false := by simpa using hf
      have e : List.filter f [k] = [] := by simp [hf']
      rw [e, List.append_nil]
      cases hl : ((List.range k).filter f).getLast? with
      | none =>
        rw [hl] at ih
        intro m hm
        rcases Nat.lt_or_ge m k with h | h
        · exact ih m h
        · obtain rfl : m = k := by omega
          exact hf'
      | some t =>
        rw [hl] at ih
        obtain ⟨h1, h2, h3⟩ := ih
        refine ⟨by omega, h2, fun m h4 h5 => ?_⟩
        rcases Nat.lt_or_ge m k with h | h
        · exact h3 m h4 h
        · obtain rfl : m = k := by omega
          exact hf'
/-- The last node that contains a span, told by its ends. -/
theorem last_hold {l : List Nd} {lo hi : Int} : (lastI (holdL l lo hi l.length) = -1 ∧ ∀ m, m < l.length → ¬ (bN l m ≤ lo ∧ hi ≤ eN l m)) ∨
    ∃ t : Nat, lastI (holdL l lo hi l.length) = (t : Int) ∧ t < l.length ∧ (bN l t ≤ lo ∧ hi ≤ eN l t) ∧ ∀ m, t < m → m < l.length → ¬ (bN l m ≤ lo ∧ hi ≤ eN l m) := by
  obtain ⟨f, hf, he⟩ : ∃ f : Nat → Bool, (∀ (m : Nat) (x : Nd), l[m]? = some x → f m = (decide (x.b ≤ lo) && decide (hi ≤ x.e))) ∧ holdL l lo hi l.length = (List.range l.length).filter f := ⟨fun i => match l[i]? with
    | some x => decide (x.b ≤ lo) && decide (hi ≤ x.e)
    | none => false, fun m x hx => by simp only [hx], rfl⟩
  rw [he]
  have h := last_filter f l.length
  have key : ∀ m, m < l.length → (f m = true ↔ (bN l m ≤ lo ∧ hi ≤ eN l m)) := fun m hm => by
    have hx := List.getElem?_eq_getElem hm
    rw [bN_at hx, eN_at hx, hf m _ hx]
    simp
  unfold lastI
  generalize ((List.range l.length).filter f).getLast? = o at h ⊢
  cases o with
  | some t =>
    obtain ⟨h1, h2, h3⟩ := h
    refine .inr ⟨t, rfl, h1, (key t h1).1 h2, fun m h4 h5 h6 => ?_⟩
    have := (key m h5).2 h6
    rw [h3 m h4 h5] at this
    simp at this
  | none =>
    refine .inl ⟨rfl, fun m hm h6 => ?_⟩
    have := (key m hm).2 h6
    rw [h m hm] at this
    simp at this
/-- What TopNodes' law asks of the three last nodes. -/
theorem top_nodes {l : List Nd} {X : List Tx} (h : NodesOk l X) {a b mi mx : Nat} (hm : MinMax a b mi mx) :
    -1 ≤ lastI (holdL l (a : Int) ((a : Int) + 1) l.length) ∧ lastI (holdL l (a : Int) ((a : Int) + 1) l.length) < l.length ∧
    -1 ≤ lastI (holdL l (b : Int) ((b : Int) + 1) l.length) ∧ lastI (holdL l (b : Int) ((b : Int) + 1) l.length) < l.length ∧
    ((lastI (holdL l (a : Int) ((a : Int) + 1) l.length) < 0 ∨ lastI (holdL l (b : Int) ((b : Int) + 1) l.length) < 0) → lastI (holdL l (mi : Int) ((mx : Int) + 1) l.length) = -1) ∧
    ∀ (x y : Nat), lastI (holdL l (a : Int) ((a : Int) + 1) l.length) = (x : Int) → lastI (holdL l (b : Int) ((b : Int) + 1) l.length) = (y : Int) → Lca (l.map Nd.p) x y (lastI (holdL l (mi : Int) ((mx : Int) + 1) l.length)) := by
  have hI := nodes_ivl h
  have hl : (l.map Nd.p).length = l.length := List.length_map _
  have ha := last_hold (l := l) (lo := (a : Int)) (hi := (a : Int) + 1)
  have hb := last_hold (l := l) (lo := (b : Int)) (hi := (b : Int) + 1)
  have hz := last_hold (l := l) (lo := (mi : Int)) (hi := (mx : Int) + 1)
  generalize lastI (holdL l (a : Int) ((a : Int) + 1) l.length) = xa at *
  generalize lastI (holdL l (b : Int) ((b : Int) + 1) l.length) = xb at *
  generalize lastI (holdL l (mi : Int) ((mx : Int) + 1) l.length) = xz at *
  have hboth : ∀ m, (bN l m ≤ (mi : Int) ∧ (mx : Int) + 1 ≤ eN l m) ↔ ((bN l m ≤ (a : Int) ∧ (a : Int) < eN l m) ∧ (bN l m ≤ (b : Int) ∧ (b : Int) < eN l m)) := fun m => by
    rcases hm with ⟨h1, rfl, rfl⟩ | ⟨h1, rfl, rfl⟩ <;> omega
  refine ⟨?_, ?_, ?_, ?_, ?_, ?_⟩
  · rcases ha with ⟨h1, _⟩ | ⟨t, h1, _⟩ <;> omega
  · rcases ha with ⟨h1, _⟩ | ⟨t, h1, h2, _⟩ <;> omega
  · rcases hb with ⟨h1, _⟩ | ⟨t, h1, _⟩ <;> omega
  · rcases hb with ⟨h1, _⟩ | ⟨t, h1, h2, _⟩ <;> omega
  · intro hn
    rcases hz with ⟨h1, _⟩ | ⟨t, h1, h2, h3, _⟩
    · exact h1
    · exfalso
      have h4 := (hboth t).1 h3
      rcases hn with hn | hn
      · rcases ha with ⟨_, k⟩ | ⟨u, k, _⟩
        · exact k t h2 ⟨h4.1.1, by omega⟩
        · omega
      · rcases hb with ⟨_, k⟩ | ⟨u, k, _⟩
        · exact k t h2 ⟨h4.2.1, by omega⟩
        · omega
  · intro x y hx hy
    rcases ha with ⟨k, _⟩ | ⟨u, k, a1, a2, a3⟩
    · omega
    rcases hb with ⟨k', _⟩ | ⟨v, k', b1, b2, b3⟩
    · omega
    obtain rfl : x = u := by omega
    obtain rfl : y = v := by omega
    have hax : ∀ j, j < l.length → ((bN l j ≤ (a : Int) ∧ (a : Int) < eN l j) ↔ AncS (l.map Nd.p) j x) := fun j hj => hI.holds (by omega) ⟨a2.1, by omega⟩ (fun m h1 h2 h3 => a3 m h1 (by omega) ⟨h3.1, by omega⟩) (by omega)
    have hby : ∀ j, j < l.length → ((bN l j ≤ (b : Int) ∧ (b : Int) < eN l j) ↔ AncS (l.map Nd.p) j y) := fun j hj => hI.holds (by omega) ⟨b2.1, by omega⟩ (fun m h1 h2 h3 => b3 m h1 (by omega) ⟨h3.1, by omega⟩) (by omega)
    have hlt : ∀ j, AncS (l.map Nd.p) j x → j < l.length := fun j hj => by
      have := ancS_le hI.preo hj
      omega
    rcases hz with ⟨h1, h2⟩ | ⟨t, h1, h2, h3, h4⟩
    · refine .inl ⟨h1, fun k hk hk' => ?_⟩
      have hkl := hlt k hk
      exact h2 k hkl ((hboth k).2 ⟨(hax k hkl).2 hk, (hby k hkl).2 hk'⟩)
    · have h5 := (hboth t).1 h3
      have htx := (hax t h2).1 h5.1
      refine .inr ⟨t, h1, htx, (hby t h2).1 h5.2, fun k hk hk' => ?_⟩
      have hkl := hlt k hk
      have hkt : k ≤ t := by
        rcases Nat.lt_or_ge t k with h6 | h6
        · exact absurd ((hboth k).2 ⟨(hax k hkl).2 hk, (hby k hkl).2 hk'⟩) (h4 k h6 hkl)
        · exact h6
      rcases hk with rfl | hk
      · rcases htx with rfl | htx
        · exact .inl rfl
        · have := preo_anc_lt hI.preo htx; omega
      · rcases htx with rfl | htx
        · exact .inr hk
        · rcases hk.chain htx with h7 | h7 | h7
          · exact .inl h7
          · exact .inr h7
          · have := preo_anc_lt hI.preo h7; omega
end Go.Proofs.YtbpkclopcoaikaaGreatDoor
