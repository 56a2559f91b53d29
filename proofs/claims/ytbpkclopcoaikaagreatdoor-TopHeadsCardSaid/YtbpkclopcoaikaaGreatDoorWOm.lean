/- The parameter api.Corpus, opened to its cells. -/
import Derived.Test.YtbpkclopcoaikaaGreatDoorUPm
import Derived.Deep.Slices
import Derived.Deep.Fields
import Derived.ChangeSame
import Derived.Lib.SmallJoins
namespace Go.Proofs.YtbpkclopcoaikaaGreatDoor
open Go.Joins Go.ChangeShapes Go.WideShapes Go.RowKit Go.Deep
set_option linter.unusedVariables false
set_option linter.unusedSimpArgs false
theorem list_of {α : Type} {Pr : Nat → α → Prop} (n : Nat) (h : ∀ i, i < n → ∃ c, Pr i c) : ∃ cs : List α, cs.length = n ∧ ∀ i c, cs[i]? = some c → Pr i c := by
  induction n with
  | zero => exact ⟨[], rfl, fun i c h => by simp at h⟩
  | succ n ih =>
    obtain ⟨cs, hl, hc⟩ := ih (fun i hi => h i (by omega))
    obtain ⟨c, hc'⟩ := h n (by omega)
    refine ⟨cs ++ [c], by simp [hl], fun i d hd => ?_⟩
    rcases Nat.lt_or_ge i n with hi | hi
    · rw [List.getElem?_append_left (by omega)] at hd
      exact hc i d hd
    · have hlt := (List.getElem?_eq_some_iff.1 hd).1
      simp [hl] at hlt
      obtain rfl : i = n := by omega
      rw [List.getElem?_append_right (by omega), hl, Nat.sub_self] at hd
      simp at hd
      subst hd
      exact hc'
theorem flat_cells {α : Type} {enc : α → List Value} {s : Nat} (hs : ∀ x, (enc x).length = s) (h0 : 0 < s) : ∀ (cs : List α) (j : Nat) (v : Value), (cs.flatMap enc)[j]? = some v → ∃ c, cs[j / s]? = some c ∧ (enc c)[j % s]? = some v
  | [], j, v, h => by simp at h
  | d :: cs, j, v, h => by
    rw [List.flatMap_cons] at h
    rcases Nat.lt_or_ge j s with hj | hj
    · rw [List.getElem?_append_left (by rw [hs]; exact hj)] at h
      exact ⟨d, by rw [Nat.div_eq_of_lt hj]; rfl, by rw [Nat.mod_eq_of_lt hj]; exact h⟩
    · rw [List.getElem?_append_right (by rw [hs]; exact hj), hs] at h
      obtain ⟨c, h1, h2⟩ := flat_cells hs h0 cs _ _ h
      refine ⟨c, ?_, ?_⟩
      · rw [show j / s = (j - s) / s + 1 by rw [Nat.div_eq_sub_div h0 hj]]; simpa using h1
      · rw [show j % s = (j - s) % s by rw [Nat.mod_eq_sub_mod hj]]; exact h2
theorem rows_rd {α : Type} {enc : α → List Value} {s : Nat} (hs : ∀ x, (enc x).length = s) (h0 : 0 < s) {w : World} {ad : Addr} {len : Nat} {cs : List α} (hlen : cs.length = len) (hc : ∀ i c, cs[i]? = some c → ∀ j v, (enc c)[j]? = some v → w.cell? (ad.add (i * s + j)) = some v) : Rd w (some ad) (cs.flatMap enc) := by
  by_cases hl : len = 0
  · left
    have : cs = [] := List.eq_nil_of_length_eq_zero (by omega)
    rw [this]; rfl
  · right
    have hcell : ∀ k v, (cs.flatMap enc)[k]? = some v → w.cell? (ad.add k) = some v := fun k v hv => by
      obtain ⟨c, h1, h2⟩ := flat_cells hs h0 cs k v hv
      have := hc _ c h1 _ v h2
      rwa [Nat.div_add_mod'] at this
    obtain ⟨c0, hc0⟩ : ∃ c0, cs[0]? = some c0 := ⟨_, List.getElem?_eq_getElem (show 0 < cs.length by omega)⟩
    obtain ⟨v0, hv0⟩ : ∃ v0, (enc c0)[0]? = some v0 := ⟨_, List.getElem?_eq_getElem (by rw [hs]; exact h0)⟩
    have hx0 := hc 0 _ hc0 0 _ hv0
    have hsp : ad.spot = none := by simpa [Addr.add] using World.cell?_spot hx0
    obtain ⟨b, o, sp⟩ := ad
    subst hsp
    refine ⟨b, o, rfl, (by have h9 := hx0; rw [Addr.add_lit] at h9; exact lt_heap h9), fun k v hv => ?_⟩
    have h1 := hcell k v hv
    rwa [Addr.add_lit] at h1
theorem flat_one {α β : Type} (f : α → β) : ∀ l : List α, l.flatMap (fun c => [f c]) = l.map f
  | [] => rfl
  | x :: l => by rw [List.flatMap_cons, flat_one f l]; rfl
section
variable {H : Type} {enc : TypeId × Value → H} {w : World} {base : Nat} {spare : Nat → Bool} {held : Bool}
/-- A slice of structs of one-cell fields, opened; 'hrow' opens a row. -/
theorem structs_open {α : Type} {ec : α → List Value} {Q : α → Prop} {t e : TypeId} {fs : Array Field} {fuel : Nat} {c0 : Value} {x : DataW H × List MemPlace} (ht : Tryz.prog.underlying t = some (.slice e)) (he : Tryz.prog.underlying e = some (.struct fs))
    (hone : oneCellFields Tryz.prog fs = true) (hC : Tryz.prog.cellsOf e = fs.size) (hs : ∀ x, (ec x).length = fs.size) (h0 : 0 < fs.size)
    (hrow : ∀ (n : Nat) (vs : List Value), vs.length = fs.size → (∀ (j : Nat) (f : Field) (v : Value), fs[j]? = some f → vs[j]? = some v → ∃ y, DataW.trod enc Tryz.prog w base spare held n f.type [v] = some y) → ∃ c : α, ec c = vs ∧ Q c)
    (h : DataW.trod enc Tryz.prog w base spare held fuel t [c0] = some x) : ∃ (s : Sl) (l : List α), c0 = .slice s.a s.n s.c ∧ s.n = l.length ∧ Rd w s.a (l.flatMap ec) ∧ (∀ x ∈ l, Q x) ∧ s.n ≤ s.c ∧ s.c ≤ big := by
  rcases DataW.trod_slice ht h with ⟨hcs, _⟩ | ⟨ad, len, cap, elems, rest, n, _, hcs, _, hb, hl, hm, hlen, hel, _, _⟩
  · obtain rfl : c0 = .slice none 0 0 := by simpa using hcs
    exact ⟨⟨none, 0, 0⟩, [], rfl, rfl, .inl rfl, fun x hx => by simp at hx, Nat.le_refl _, Nat.zero_le _⟩
  · obtain rfl : c0 = .slice (some ad) len cap := by simpa using hcs
    obtain ⟨cs, hcl, hc⟩ := list_of (α := α) (Pr := fun i c => (∀ j v, (ec c)[j]? = some v → w.cell? (ad.add (i * fs.size + j)) = some v) ∧ Q c) len (fun i hilt => by
      have h1 := hel i hilt
      rw [hC] at h1
      have h2 : elems[i]? = some (elems[i]'(by omega)) := List.getElem?_eq_getElem _
      rw [h2, Option.bind_eq_some_iff] at h1
      obtain ⟨cs', h3, h4⟩ := h1
      obtain ⟨ys, n', hn', hy, hlen', hyl, hf⟩ := DataW.trod_struct he h4
      obtain ⟨_, hcl', hat⟩ := World.cells?_some h3
      obtain ⟨c, hc1, hc2⟩ := hrow n' cs' hcl' (fun j f v hj hv => by
        obtain ⟨ho, hk⟩ := hone_of hone j f hj
        have hjl : j < fs.size := (Array.getElem?_eq_some_iff.1 hj).1
        have h5 := hf j f hj
        rw [ho, hk] at h5
        have hone' : (cs'.drop j).take 1 = [v] := by
          rw [List.drop_eq_getElem_cons (by omega)]
          have : cs'[j]'(by omega) = v := by
            have := List.getElem?_eq_getElem (l := cs') (i := j) (by omega)
            rw [this] at hv
            simpa using hv
          rw [this]
          rfl
        rw [hone'] at h5
        have hys : ys[j]? = some (ys[j]'(by omega)) := List.getElem?_eq_getElem (by omega)
        exact ⟨_, h5.trans hys⟩)
      refine ⟨c, fun j v hv => ?_, hc2⟩
      rw [hc1] at hv
      have hjl : j < fs.size := by have := (List.getElem?_eq_some_iff.1 hv).1; omega
      rw [← Go.Deep.add_add, hat j hjl, hv])
    exact ⟨⟨some ad, len, cap⟩, cs, rfl, hcl.symm, rows_rd hs h0 hcl (fun i c hi => (hc i c hi).1), fun x hx => by
      obtain ⟨i, hi⟩ := List.mem_iff_getElem?.1 hx
      exact (hc i x hi).2, hl, hm⟩
/-- A slice of values of one cell, opened. -/
theorem ones_open {α : Type} {ec : α → Value} {Q : α → Prop} {t e : TypeId} {fuel : Nat} {c0 : Value} {x : DataW H × List MemPlace} (ht : Tryz.prog.underlying t = some (.slice e)) (hC : Tryz.prog.cellsOf e = 1)
    (hrow : ∀ (n : Nat) (v : Value) (y : DataW H × List MemPlace), DataW.trod enc Tryz.prog w base spare held n e [v] = some y → ∃ c : α, ec c = v ∧ Q c)
    (h : DataW.trod enc Tryz.prog w base spare held fuel t [c0] = some x) : ∃ (s : Sl) (l : List α), c0 = .slice s.a s.n s.c ∧ s.n = l.length ∧ Rd w s.a (l.map ec) ∧ (∀ x ∈ l, Q x) ∧ s.n ≤ s.c ∧ s.c ≤ big := by
  rcases open_slice1 ht hC h with ⟨hcs, _⟩ | ⟨ad, len, cap, m, n, V, D, Pl, hcs, _, hl, hm, hmm, _, hel⟩
  · obtain rfl : c0 = .slice none 0 0 := by simpa using hcs
    exact ⟨⟨none, 0, 0⟩, [], rfl, rfl, .inl rfl, fun x hx => by simp at hx, Nat.le_refl _, Nat.zero_le _⟩
  · obtain rfl : c0 = .slice (some ad) len cap := by simpa using hcs
    have hlm : len ≤ m := by rw [hmm]; split <;> omega
    obtain ⟨cs, hcl, hc⟩ := list_of (α := α) (Pr := fun i c => w.cell? (ad.add i) = some (ec c) ∧ Q c) len (fun i hilt => by
      obtain ⟨h1, h2⟩ := hel i (by omega)
      obtain ⟨c, hc1, hc2⟩ := hrow _ _ _ h2
      exact ⟨c, by rw [hc1]; exact h1, hc2⟩)
    have hr := rows_rd (enc := fun c => [ec c]) (s := 1) (fun _ => rfl) (by decide) (w := w) (ad := ad) hcl (fun i c hi j v hv => by
      rcases j with _ | j
      · simp at hv
        subst hv
        rw [Nat.mul_one, Nat.add_zero]
        exact (hc i c hi).1
      · simp at hv)
    rw [flat_one] at hr
    exact ⟨⟨some ad, len, cap⟩, cs, rfl, hcl.symm, hr, fun x hx => by
      obtain ⟨i, hi⟩ := List.mem_iff_getElem?.1 hx
      exact (hc i x hi).2, hl, hm⟩
theorem str_opened {n : Nat} {v : Value} {y : DataW H × List MemPlace} (h : DataW.trod enc Tryz.prog w base spare held n 9 [v] = some y) : ∃ s : List UInt8, v = .string (bstr s) := by
  obtain ⟨s1, q1, _, _⟩ := DataW.trod_string Tryz.underlying9 h
  obtain rfl : v = .string s1 := by simpa using q1
  obtain ⟨p1, rfl⟩ := str_ex s1
  exact ⟨p1, rfl⟩
theorem int_opened {n : Nat} {v : Value} {y : DataW H × List MemPlace} (h : DataW.trod enc Tryz.prog w base spare held n 3 [v] = some y) : ∃ k : Int, v = .int .i64 k := by
  obtain ⟨k, q1, _, _⟩ := DataW.trod_int Tryz.underlying3 h
  exact ⟨k, by simpa using q1⟩
theorem bool_opened {n : Nat} {v : Value} {y : DataW H × List MemPlace} (h : DataW.trod enc Tryz.prog w base spare held n 4 [v] = some y) : ∃ k : Bool, v = .bool k := by
  obtain ⟨k, q1, _⟩ := DataW.trod_bool Tryz.underlying4 h
  exact ⟨k, by simpa using q1⟩
theorem strs_opened {fuel : Nat} {c0 : Value} {x : DataW H × List MemPlace} (h : DataW.trod enc Tryz.prog w base spare held fuel 28 [c0] = some x) : ∃ (s : Sl) (l : List (List UInt8)), c0 = .slice s.a s.n s.c ∧ IsS w s.a s.n l ∧ s.n ≤ s.c ∧ s.c ≤ big := by
  obtain ⟨s, l, h1, h2, h3, _, h4, h5⟩ := ones_open (ec := sv) (Q := fun _ => True) Tryz.underlying28 (by kernel_rfl) (fun n v y hv => by
    obtain ⟨s, rfl⟩ := str_opened hv
    exact ⟨s, rfl, trivial⟩) h
  exact ⟨s, l, h1, ⟨h2, h3⟩, h4, h5⟩
theorem ints_opened {fuel : Nat} {c0 : Value} {x : DataW H × List MemPlace} (h : DataW.trod enc Tryz.prog w base spare held fuel 27 [c0] = some x) : ∃ (s : Sl) (l : List Int), c0 = .slice s.a s.n s.c ∧ IsI w s.a s.n l ∧ s.n ≤ s.c ∧ s.c ≤ big := by
  obtain ⟨s, l, h1, h2, h3, _, h4, h5⟩ := ones_open (ec := iv) (Q := fun _ => True) Tryz.underlying27 (by kernel_rfl) (fun n v y hv => by
    obtain ⟨s, rfl⟩ := int_opened hv
    exact ⟨s, rfl, trivial⟩) h
  exact ⟨s, l, h1, ⟨h2, h3⟩, h4, h5⟩
theorem toks_opened {fuel : Nat} {c0 : Value} {x : DataW H × List MemPlace} (h : DataW.trod enc Tryz.prog w base spare held fuel 23 [c0] = some x) : ∃ (s : Sl) (l : List Tk), c0 = .slice s.a s.n s.c ∧ IsT w s.a s.n l ∧ s.n ≤ s.c ∧ s.c ≤ big := by
  obtain ⟨s, l, h1, h2, h3, h6, h4, h5⟩ := ones_open (ec := encK) (Q := fun x => IsS w x.s.a x.s.n x.vs ∧ x.s.n ≤ x.s.c ∧ x.s.c ≤ big) Tryz.underlying23 (by kernel_rfl) (fun n v y hv => by
    obtain ⟨s, l, rfl, h⟩ := strs_opened hv
    exact ⟨⟨s, l⟩, rfl, h⟩) h
  exact ⟨s, l, h1, ⟨h2, h3, h6⟩, h4, h5⟩
theorem prs_opened {fuel : Nat} {c0 : Value} {x : DataW H × List MemPlace} (h : DataW.trod enc Tryz.prog w base spare held fuel 74 [c0] = some x) : ∃ (s : Sl) (l : List Pr), c0 = .slice s.a s.n s.c ∧ IsP w s.a s.n l ∧ s.n ≤ s.c ∧ s.c ≤ big := by
  obtain ⟨s, l, h1, h2, h3, _, h4, h5⟩ := structs_open (ec := encP) (Q := fun _ => True) Tryz.underlying74 Tryz.underlying108 (by kernel_rfl) (by kernel_rfl) encP_len (by decide) (fun n vs hvs hf => by
    match vs, hvs with
    | [v0, v1], _ =>
      obtain ⟨y0, g0⟩ := hf 0 _ v0 rfl rfl
      obtain ⟨y1, g1⟩ := hf 1 _ v1 rfl rfl
      obtain ⟨s0, rfl⟩ := str_opened g0
      obtain ⟨s1, rfl⟩ := str_opened g1
      exact ⟨⟨s0, s1⟩, rfl, trivial⟩) h
  exact ⟨s, l, h1, ⟨h2, h3⟩, h4, h5⟩
theorem abs_opened {fuel : Nat} {c0 : Value} {x : DataW H × List MemPlace} (h : DataW.trod enc Tryz.prog w base spare held fuel 22 [c0] = some x) : ∃ (s : Sl) (l : List Ab), c0 = .slice s.a s.n s.c ∧ IsA w s.a s.n l ∧ s.n ≤ s.c ∧ s.c ≤ big := by
  obtain ⟨s, l, h1, h2, h3, _, h4, h5⟩ := structs_open (ec := encA) (Q := fun _ => True) Tryz.underlying22 Tryz.underlying71 (by kernel_rfl) (by kernel_rfl) encA_len (by decide) (fun n vs hvs hf => by
    match vs, hvs with
    | [v0, v1], _ =>
      obtain ⟨y0, g0⟩ := hf 0 _ v0 rfl rfl
      obtain ⟨y1, g1⟩ := hf 1 _ v1 rfl rfl
      obtain ⟨s0, rfl⟩ := str_opened g0
      obtain ⟨s1, rfl⟩ := bool_opened g1
      exact ⟨⟨s0, s1⟩, rfl, trivial⟩) h
  exact ⟨s, l, h1, ⟨h2, h3⟩, h4, h5⟩
theorem nds_opened {fuel : Nat} {c0 : Value} {x : DataW H × List MemPlace} (h : DataW.trod enc Tryz.prog w base spare held fuel 26 [c0] = some x) : ∃ (s : Sl) (l : List Nd), c0 = .slice s.a s.n s.c ∧ IsN w s.a s.n l ∧ s.n ≤ s.c ∧ s.c ≤ big := by
  obtain ⟨s, l, h1, h2, h3, _, h4, h5⟩ := structs_open (ec := encN) (Q := fun _ => True) Tryz.underlying26 Tryz.underlying33 (by kernel_rfl) (by kernel_rfl) (fun _ => rfl) (by decide) (fun n vs hvs hf => by
    match vs, hvs with
    | [v0, v1, v2, v3], _ =>
      obtain ⟨y0, g0⟩ := hf 0 _ v0 rfl rfl
      obtain ⟨y1, g1⟩ := hf 1 _ v1 rfl rfl
      obtain ⟨y2, g2⟩ := hf 2 _ v2 rfl rfl
      obtain ⟨y3, g3⟩ := hf 3 _ v3 rfl rfl
      obtain ⟨s0, rfl⟩ := str_opened g0
      obtain ⟨s1, rfl⟩ := int_opened g1
      obtain ⟨s2, rfl⟩ := int_opened g2
      obtain ⟨s3, rfl⟩ := int_opened g3
      exact ⟨⟨s0, s1, s2, s3⟩, rfl, trivial⟩) h
  exact ⟨s, l, h1, ⟨h2, h3⟩, h4, h5⟩
theorem txs_opened {fuel : Nat} {c0 : Value} {x : DataW H × List MemPlace} (h : DataW.trod enc Tryz.prog w base spare held fuel 24 [c0] = some x) : ∃ (s : Sl) (l : List Tx), c0 = .slice s.a s.n s.c ∧ IsX w s.a s.n l ∧ s.n ≤ s.c ∧ s.c ≤ big := by
  obtain ⟨s, l, h1, h2, h3, h6, h4, h5⟩ := structs_open (ec := encT) (Q := fun x => IsP w x.s.a x.s.n x.ps ∧ x.s.n ≤ x.s.c ∧ x.s.c ≤ big) Tryz.underlying24 Tryz.underlying88 (by kernel_rfl) (by kernel_rfl) encT_len (by decide) (fun n vs hvs hf => by
    match vs, hvs with
    | [v0, v1, v2, v3], _ =>
      obtain ⟨y0, g0⟩ := hf 0 _ v0 rfl rfl
      obtain ⟨y1, g1⟩ := hf 1 _ v1 rfl rfl
      obtain ⟨y2, g2⟩ := hf 2 _ v2 rfl rfl
      obtain ⟨y3, g3⟩ := hf 3 _ v3 rfl rfl
      obtain ⟨s0, rfl⟩ := str_opened g0
      obtain ⟨s1, rfl⟩ := int_opened g1
      obtain ⟨s2, rfl⟩ := int_opened g2
      obtain ⟨s3, l3, rfl, q⟩ := prs_opened g3
      exact ⟨⟨s0, s1, s2, s3, l3⟩, rfl, q⟩) h
  exact ⟨s, l, h1, ⟨h2, h3, h6⟩, h4, h5⟩
theorem rgs_opened {fuel : Nat} {c0 : Value} {x : DataW H × List MemPlace} (h : DataW.trod enc Tryz.prog w base spare held fuel 25 [c0] = some x) : ∃ (s : Sl) (l : List Tx), c0 = .slice s.a s.n s.c ∧ IsX w s.a s.n l ∧ s.n ≤ s.c ∧ s.c ≤ big := by
  obtain ⟨s, l, h1, h2, h3, h6, h4, h5⟩ := structs_open (ec := encT) (Q := fun x => IsP w x.s.a x.s.n x.ps ∧ x.s.n ≤ x.s.c ∧ x.s.c ≤ big) Tryz.underlying25 Tryz.underlying76 (by kernel_rfl) (by kernel_rfl) encT_len (by decide) (fun n vs hvs hf => by
    match vs, hvs with
    | [v0, v1, v2, v3], _ =>
      obtain ⟨y0, g0⟩ := hf 0 _ v0 rfl rfl
      obtain ⟨y1, g1⟩ := hf 1 _ v1 rfl rfl
      obtain ⟨y2, g2⟩ := hf 2 _ v2 rfl rfl
      obtain ⟨y3, g3⟩ := hf 3 _ v3 rfl rfl
      obtain ⟨s0, rfl⟩ := str_opened g0
      obtain ⟨s1, rfl⟩ := int_opened g1
      obtain ⟨s2, rfl⟩ := int_opened g2
      obtain ⟨s3, l3, rfl, q⟩ := prs_opened g3
      exact ⟨⟨s0, s1, s2, s3, l3⟩, rfl, q⟩) h
  exact ⟨s, l, h1, ⟨h2, h3, h6⟩, h4, h5⟩
theorem open_agg7 {P : Program} {r : Reach} {b0 : Nat} {t : TypeId} {f0 f1 f2 f3 f4 f5 f6 : Field} {v : Value} {d : DataW H} {p : List MemPlace} (hs : P.underlying t = some (.struct #[f0, f1, f2, f3, f4, f5, f6])) (hone : oneCellFields P #[f0, f1, f2, f3, f4, f5, f6] = true) (hC : P.cellsOf t = 7)
    (hv : Value.okWide P w r b0 t v) (h : DataW.Trod enc P w base spare held t v d p) :
    ∃ (v0 v1 v2 v3 v4 v5 v6 : Value) (y0 y1 y2 y3 y4 y5 y6 : DataW H × List MemPlace) (n : Nat), v = .agg #[v0, v1, v2, v3, v4, v5, v6] ∧
      DataW.trod enc P w base spare held n f0.type [v0] = some y0 ∧ DataW.trod enc P w base spare held n f1.type [v1] = some y1 ∧ DataW.trod enc P w base spare held n f2.type [v2] = some y2 ∧ DataW.trod enc P w base spare held n f3.type [v3] = some y3 ∧ DataW.trod enc P w base spare held n f4.type [v4] = some y4 ∧ DataW.trod enc P w base spare held n f5.type [v5] = some y5 ∧ DataW.trod enc P w base spare held n f6.type [v6] = some y6 := by
  obtain ⟨cs, rfl, hsz⟩ := okWide_struct hs hv
  obtain ⟨l⟩ := cs
  match l, hsz.trans hC with
  | [c0, c1, c2, c3, c4, c5, c6], _ =>
    obtain ⟨fuel, hf⟩ := h
    obtain ⟨xs, n, _, hx, _, hlen, hg⟩ := DataW.trod_struct hs hf
    obtain ⟨o0, k0⟩ := hone_of hone 0 f0 rfl
    obtain ⟨o1, k1⟩ := hone_of hone 1 f1 rfl
    obtain ⟨o2, k2⟩ := hone_of hone 2 f2 rfl
    obtain ⟨o3, k3⟩ := hone_of hone 3 f3 rfl
    obtain ⟨o4, k4⟩ := hone_of hone 4 f4 rfl
    obtain ⟨o5, k5⟩ := hone_of hone 5 f5 rfl
    obtain ⟨o6, k6⟩ := hone_of hone 6 f6 rfl
    match xs, hlen with
    | [y0, y1, y2, y3, y4, y5, y6], _ =>
      exact ⟨c0, c1, c2, c3, c4, c5, c6, y0, y1, y2, y3, y4, y5, y6, n, rfl, by simpa [Value.cells, o0, k0] using hg 0 f0 rfl, by simpa [Value.cells, o1, k1] using hg 1 f1 rfl, by simpa [Value.cells, o2, k2] using hg 2 f2 rfl, by simpa [Value.cells, o3, k3] using hg 3 f3 rfl, by simpa [Value.cells, o4, k4] using hg 4 f4 rfl, by simpa [Value.cells, o5, k5] using hg 5 f5 rfl, by simpa [Value.cells, o6, k6] using hg 6 f6 rfl⟩
set_option maxRecDepth 100000 in
/-- The corpus that came in. -/
theorem corpus_open {r : Reach} {b0 : Nat} {v : Value} {d : DataW H} {p : List MemPlace} (hv : Value.okWide Tryz.prog w r b0 30 v) (h : DataW.Trod enc Tryz.prog w base spare held 30 v d p) : ∃ (c : Cv) (k : Cd), v = c.v ∧ IsCo w c k ∧ CFit c := by
  obtain ⟨v0, v1, v2, v3, v4, v5, v6, y0, y1, y2, y3, y4, y5, y6, n, rfl, g0, g1, g2, g3, g4, g5, g6⟩ := open_agg7 Tryz.underlying30 (by kernel_rfl) (by kernel_rfl) hv h
  obtain ⟨A, lA, rfl, a1, a2⟩ := abs_opened g0
  obtain ⟨T, lT, rfl, t1, t2⟩ := toks_opened g1
  obtain ⟨X, lX, rfl, x1, x2⟩ := txs_opened g2
  obtain ⟨R, lR, rfl, r1, r2⟩ := rgs_opened g3
  obtain ⟨N, lN, rfl, n1, n2⟩ := nds_opened g4
  obtain ⟨Hs, lH, rfl, h1, h2⟩ := ints_opened g5
  obtain ⟨L, lL, rfl, l1, l2⟩ := strs_opened g6
  exact ⟨⟨A, T, X, R, N, Hs, L⟩, ⟨lA, lT, lX, lR, lN, lH, lL⟩, rfl, ⟨a1, t1, x1, r1, n1, h1, l1⟩, ⟨a2, t2, x2, r2, n2, h2, l2⟩⟩
end
end Go.Proofs.YtbpkclopcoaikaaGreatDoor
