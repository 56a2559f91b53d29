/- The plain law of torn and of damaged journals: lists of bytes alone. -/
import Derived.Test.YthkncfenhfieoaaJM
namespace Go.Proofs.Ythkncfenhfieoaa
set_option linter.unusedVariables false

theorem stpN_inj {n : Nat} {a b : BitVec 32} (h : stpN n a = stpN n b) : a = b := by
  have h1 : stpN n (a ^^^ b) = 0#32 := by rw [stpN_xor, h, BitVec.xor_self]
  have h2 := stpN_ne _ _ h1
  have h3 : a ^^^ b ^^^ b = b := by rw [h2, BitVec.zero_xor]
  rwa [BitVec.xor_assoc, BitVec.xor_self, BitVec.xor_zero] at h3
theorem xor_cancel {a b c : BitVec 32} (h : a ^^^ c = b ^^^ c) : a = b := by
  have h3 : a ^^^ c ^^^ c = b ^^^ c ^^^ c := by rw [h]
  rwa [BitVec.xor_assoc, BitVec.xor_self, BitVec.xor_zero, BitVec.xor_assoc, BitVec.xor_self, BitVec.xor_zero] at h3
theorem crcF_inj : ∀ (l : List UInt8) {u v : BitVec 32}, crcF u l = crcF v l → u = v
  | [], _, _, h => h
  | c :: l, _, _, h => xor_cancel (stpN_inj (crcF_inj l (u := crcB _ c) (v := crcB _ c) h))
theorem crcB_zero (v : BitVec 32) : crcB v 0 = stpN 8 v := by
  unfold crcB
  rw [show c32 0 = 0#32 by decide, BitVec.xor_zero]
theorem crcF_zeros (v : BitVec 32) : ∀ n, crcF v (List.replicate n 0) = stpN (8 * n) v
  | 0 => rfl
  | n + 1 => by
    rw [List.replicate_succ]
    show crcF (crcB v 0) (List.replicate n 0) = _
    rw [crcF_zeros _ n, crcB_zero, ← stpN_add]
    congr 1
theorem le32_ex (a b c d : UInt8) : ∃ z, le32 z = [a, b, c, d] := by
  have ha := a.toNat_lt
  have hb := b.toNat_lt
  have hc := c.toNat_lt
  have hd := d.toNat_lt
  refine ⟨BitVec.ofNat 32 (a.toNat + b.toNat * 256 + c.toNat * 65536 + d.toNat * 16777216), ?_⟩
  have e : (BitVec.ofNat 32 (a.toNat + b.toNat * 256 + c.toNat * 65536 + d.toNat * 16777216)).toNat = a.toNat + b.toNat * 256 + c.toNat * 65536 + d.toNat * 16777216 := by
    rw [BitVec.toNat_ofNat]; omega
  unfold le32 byt
  rw [e]
  have f : ∀ (x : UInt8) (n : Nat), n % 256 = x.toNat → UInt8.ofNat n = x := fun x n h => UInt8.toNat_inj.1 (by rw [UInt8.toNat_ofNat']; exact h)
  rw [f a _ (by omega), f b _ (by omega), f c _ (by omega), f d _ (by omega)]
theorem crcF_le32 (z : BitVec 32) : crcF 0#32 (le32 z) = stpN 32 z := by
  have h := crcF_xor (le32 z) [0, 0, 0, 0] z z rfl
  rw [BitVec.xor_self, crcF_own, BitVec.zero_xor] at h
  rw [show ([0, 0, 0, 0] : List UInt8) = List.replicate 4 0 from rfl, crcF_zeros] at h
  have e : xorL (le32 z) (List.replicate 4 0) = le32 z := by
    show [byt z 0 ^^^ 0, byt z 1 ^^^ 0, byt z 2 ^^^ 0, byt z 3 ^^^ 0] = [byt z 0, byt z 1, byt z 2, byt z 3]
    simp
  rw [e] at h
  exact h
theorem burst4 (d : List UInt8) (hl : d.length ≤ 4) (h : crcF 0#32 d = 0#32) : d = List.replicate d.length 0 := by
  have h1 : crcF 0#32 (d ++ List.replicate (4 - d.length) 0) = 0#32 := by
    unfold crcF at h ⊢
    rw [List.foldl_append, h]
    have := crcF_zeros 0#32 (4 - d.length)
    unfold crcF at this
    rw [this, stpN_zero]
  have h2 : (d ++ List.replicate (4 - d.length) 0).length = 4 := by simp; omega
  match hq : d ++ List.replicate (4 - d.length) 0, h2 with
  | [a, b, c, e], _ =>
    obtain ⟨z, hz⟩ := le32_ex a b c e
    rw [hq, ← hz, crcF_le32] at h1
    have h3 := stpN_ne _ _ h1
    subst h3
    have h4 : d = (d ++ List.replicate (4 - d.length) 0).take d.length := by rw [List.take_left']; rfl
    rw [hq, ← hz] at h4
    rw [h4, show le32 0#32 = List.replicate 4 0 by decide, List.take_replicate, List.length_replicate]
theorem xorL_zero {a b : List UInt8} (hl : a.length = b.length) (h : xorL a b = List.replicate a.length 0) : a = b := by
  induction a generalizing b with
  | nil => cases b with
    | nil => rfl
    | cons _ _ => simp at hl
  | cons x a ih => cases b with
    | nil => simp at hl
    | cons y b =>
      simp only [xorL, List.zipWith_cons_cons, List.length_cons, List.replicate_succ, List.cons.injEq] at h
      have h1 : x = y := UInt8.xor_eq_zero_iff.1 h.1
      rw [h1, ih (by simpa using hl) h.2]
/-- Two strings that differ in four bytes that stand together at most have different sums. -/
theorem crc_inj {pre m m' post : List UInt8} (hl : m.length = m'.length) (h4 : m.length ≤ 4) (h : crcN (pre ++ (m ++ post)) = crcN (pre ++ (m' ++ post))) : m = m' := by
  have h0 : crc (pre ++ (m ++ post)) = crc (pre ++ (m' ++ post)) := BitVec.eq_of_toNat_eq h
  unfold crc at h0
  have h1 : crcF 0xFFFFFFFF#32 (pre ++ (m ++ post)) = crcF 0xFFFFFFFF#32 (pre ++ (m' ++ post)) := by
    have := congrArg (fun v => ~~~v) h0
    simpa using this
  have e : ∀ (v : BitVec 32) (a b : List UInt8), crcF v (a ++ b) = crcF (crcF v a) b := fun v a b => by unfold crcF; rw [List.foldl_append]
  rw [e, e, e _ pre, e] at h1
  have h2 := crcF_inj post h1
  have h3 := crcF_xor m m' (crcF 0xFFFFFFFF#32 pre) (crcF 0xFFFFFFFF#32 pre) hl
  rw [BitVec.xor_self, h2, BitVec.xor_self] at h3
  have h4' := burst4 _ (by rw [xorL_length _ _ hl]; exact h4) h3
  rw [xorL_length _ _ hl] at h4'
  exact xorL_zero hl h4'

theorem be4L_inj {a b : Nat} (ha : a < 4294967296) (hb : b < 4294967296) (h : be4L a = be4L b) : a = b := by
  unfold be4L at h
  simp only [List.cons.injEq] at h
  have h1 := be4_be4L a ha
  rw [h.1, h.2.1, h.2.2.1, h.2.2.2.1, be4_be4L b hb] at h1
  exact h1.symm
theorem encR_take4 (r : Rec) : (encR r).take 4 = be4L r.2.length := rfl
theorem kb_ok {r : Rec} (h : okR r) : kb r.1 ≠ 0 := by
  rcases h.1 with h | h <;> rw [h] <;> decide
theorem encR_inj {q r : Rec} (hq : okR q) (hr : okR r) (h : encR q = encR r) : q = r := by
  have h1 := nextM_enc hq []
  rw [h, nextM_enc hr] at h1
  injection h1 with h1
  exact h1.symm
/-- Where the first bytes are those of a record, what is parsed has its length. -/
theorem same_len {q r : Rec} {s t : List UInt8} (hq : okR q) (hr : okR r) (hs : s = encR q ++ t) (h4 : s.take 4 = be4L r.2.length) : q.2.length = r.2.length := by
  have h1 : s.take 4 = be4L q.2.length := by
    rw [hs, List.take_append_of_le_length (by rw [encR_length]; omega)]
    exact encR_take4 q
  exact be4L_inj (by have := hq.2; omega) (by have := hr.2; omega) (h1.symm.trans h4)
/-- Two encodings of equal length whose bodies differ in at most four bytes that stand together, the heads being alike, are one. -/
theorem body_one {q r : Rec} (hl : q.2.length = r.2.length) {pre m m' post : List UInt8} (h8 : (encR q).take 8 = (encR r).take 8) (hq : kb q.1 :: q.2 = pre ++ (m ++ post)) (hr : kb r.1 :: r.2 = pre ++ (m' ++ post)) (hm : m.length = m'.length) (h4 : m.length ≤ 4) : m = m' := by
  have e : ∀ r : Rec, (encR r).take 8 = be4L r.2.length ++ be4L (crcN (kb r.1 :: r.2)) := fun r => rfl
  rw [e, e, hl] at h8
  have h9 := List.append_cancel_left h8
  have h10 := be4L_inj (crcN_lt _) (crcN_lt _) h9
  rw [hq, hr] at h10
  exact crc_inj hm h4 h10
theorem encR_drop8 (r : Rec) : (encR r).drop 8 = kb r.1 :: r.2 := rfl
theorem stop_len {s : List UInt8} {y : List Rec} {rest : List UInt8} (h : IsScan s y rest) (hn : nextM s = none) : y = [] ∧ rest = s := by
  cases y with
  | nil => exact ⟨rfl, by have := h.eq; rw [encL_nil, List.nil_append] at this; exact this.symm⟩
  | cons q y =>
    have h1 := nextM_enc (h.ok q (by simp)) (encL y ++ rest)
    rw [← List.append_assoc, ← encL_cons, ← h.eq, hn] at h1
    cases h1
theorem step_scan {r : Rec} {s t : List UInt8} {y : List Rec} {rest : List UInt8} (h : IsScan s y rest) (hr : okR r) (hs : s = encR r ++ t) : ∃ y', y = r :: y' ∧ IsScan t y' rest := by
  cases y with
  | nil =>
    have h1 := h.eq
    rw [encL_nil, List.nil_append] at h1
    have h2 := nextM_enc hr t
    rw [← hs, h1, h.stop] at h2
    cases h2
  | cons q y =>
    have h1 := nextM_enc (h.ok q (by simp)) (encL y ++ rest)
    rw [← List.append_assoc, ← encL_cons, ← h.eq, hs, nextM_enc hr] at h1
    injection h1 with h1
    subst h1
    refine ⟨y, rfl, ?_, fun q hq => h.ok q (by simp [hq]), h.stop⟩
    have h2 := h.eq
    rw [hs, encL_cons, List.append_assoc] at h2
    exact List.append_cancel_left h2
theorem state_short {rest : List UInt8} (h : rest.length < 9) : stateM rest ≠ 2 := by
  unfold stateM
  by_cases h0 : rest = []
  · rw [if_pos h0]; decide
  · rw [if_neg h0, if_pos (.inl h)]; decide
theorem state_last {rest : List UInt8} (h : rest.getLast? = some 0) : stateM rest ≠ 2 := by
  unfold stateM
  by_cases h0 : rest = []
  · rw [if_pos h0]; decide
  · rw [if_neg h0, if_pos (.inr (.inr h))]; decide
theorem state_len {rest : List UInt8} {n : Nat} (hn : n < 4294967296) (h4 : rest.take 4 = be4L n) (h : rest.length < 9 + n) : stateM rest ≠ 2 := by
  unfold stateM
  by_cases h0 : rest = []
  · rw [if_pos h0]; decide
  · have e : be4 (rest.getD 0 0) (rest.getD 1 0) (rest.getD 2 0) (rest.getD 3 0) = n := by
      match rest, h4 with
      | a :: b :: c :: d :: t, h4 =>
        have h5 : [a, b, c, d] = be4L n := h4
        unfold be4L at h5
        simp only [List.cons.injEq] at h5
        show be4 a b c d = n
        rw [h5.1, h5.2.1, h5.2.2.1, h5.2.2.2.1, be4_be4L n hn]
      | [], h4 => simp [be4L] at h4
      | [_], h4 => simp [be4L] at h4
      | [_, _], h4 => simp [be4L] at h4
      | [_, _, _], h4 => simp [be4L] at h4
    rw [if_neg h0, if_pos (.inr (.inl (by rw [e]; exact h)))]; decide
theorem scan_short {s : List UInt8} (h : s.length < 9) : nextM s = none := by
  cases hn : nextM s with
  | none => rfl
  | some q =>
    obtain ⟨_, t, rfl⟩ := nextM_some hn
    rw [List.length_append, encR_length] at h
    omega
theorem torn_law : ∀ (x : List Rec) (n z : Nat) (y : List Rec) (rest : List UInt8), (∀ r ∈ x, okR r) → n ≤ (encL x).length → z ≤ n → z ≤ 4 → IsScan ((encL x).take (n - z) ++ List.replicate z 0) y rest →
    y <+: x ∧ stateM rest ≠ 2 ∧ (y.length < x.length → n - z < (encL (x.take (y.length + 1))).length)
  | [], n, z, y, rest, hx, hn, hz, h4, h => by
    have hn0 : n = 0 := by simpa [encL] using hn
    subst hn0
    have hz0 : z = 0 := by omega
    subst hz0
    obtain ⟨rfl, rfl⟩ := stop_len h (scan_short (by simp [encL]))
    exact ⟨List.prefix_refl _, state_short (by simp [encL]), fun h => by simp at h⟩
  | r :: x, n, z, y, rest, hx, hn, hz, h4, h => by
    have hr := hx r (by simp)
    have hx' : ∀ q ∈ x, okR q := fun q hq => hx q (by simp [hq])
    have hR := encR_length r
    rw [encL_cons] at hn h
    rw [List.length_append] at hn
    by_cases hc : (encR r).length ≤ n - z
    · obtain ⟨y', rfl, h'⟩ := step_scan (t := (encL x).take (n - (encR r).length - z) ++ List.replicate z 0) h hr (by
        rw [List.take_append, List.take_of_length_le hc, List.append_assoc, show n - z - (encR r).length = n - (encR r).length - z by omega])
      obtain ⟨h1, h2, h3⟩ := torn_law x (n - (encR r).length) z y' rest hx' (by omega) (by omega) h4 h'
      refine ⟨(List.prefix_cons_inj r).2 h1, h2, fun hl => ?_⟩
      have := h3 (by simpa using hl)
      rw [List.length_cons, List.take_succ_cons, encL_cons, List.length_append]
      omega
    · have hcR : n - z < (encR r).length := by omega
      have htk : (encR r ++ encL x).take (n - z) = (encR r).take (n - z) := List.take_append_of_le_length (by omega)
      rw [htk] at h
      have hlen : ((encR r).take (n - z) ++ List.replicate z (0 : UInt8)).length = n := by simp; omega
      cases hnx : nextM ((encR r).take (n - z) ++ List.replicate z 0) with
      | none =>
        obtain ⟨rfl, rfl⟩ := stop_len h hnx
        refine ⟨List.nil_prefix, ?_, fun _ => ?_⟩
        · rcases Nat.eq_zero_or_pos z with h0 | h0
          · subst h0
            by_cases h9 : n < 9
            · exact state_short (by rw [hlen]; exact h9)
            · refine state_len (n := r.2.length) (by have := hr.2; omega) ?_ (by rw [hlen]; omega)
              rw [List.replicate_zero, List.append_nil, List.take_take, Nat.min_eq_left (by omega)]
              exact encR_take4 r
          · refine state_last ?_
            rw [List.getLast?_append, List.getLast?_replicate, if_neg (by omega)]
            rfl
        · rw [List.length_nil, Nat.zero_add, List.take_succ_cons, List.take_zero, encL_cons, encL_nil, List.append_nil]
          exact hcR
      | some q =>
        obtain ⟨hq, t, hs⟩ := nextM_some hnx
        have hQ := encR_length q
        have hln := congrArg List.length hs
        rw [hlen, List.length_append] at hln
        have h5 : 5 ≤ n - z := by omega
        have hql : q.2.length = r.2.length := same_len hq hr hs (by
          rw [List.take_append_of_le_length (by simp; omega), List.take_take, Nat.min_eq_left (by omega)]
          exact encR_take4 r)
        have hRQ : (encR q).length = (encR r).length := by omega
        -- the first bytes of the encoding of q
        have hpre : ∀ j, j ≤ n - z → (encR q).take j = (encR r).take j := fun j hj => by
          have h1 : ((encR r).take (n - z) ++ List.replicate z (0 : UInt8)).take j = (encR r).take j := by
            rw [List.take_append_of_le_length (by simp; omega), List.take_take, Nat.min_eq_left hj]
          rw [hs, List.take_append_of_le_length (by omega)] at h1
          exact h1
        have hc8 : ¬ n - z ≤ 8 := by
          intro h8
          have h1 : ((encR r).take (n - z) ++ List.replicate z (0 : UInt8))[8]? = some 0 := by
            rw [List.getElem?_append_right (by simp; omega), List.getElem?_replicate]
            rw [if_pos (by simp; omega)]
          rw [hs, List.getElem?_append_left (by omega)] at h1
          have h2 : (encR q)[8]? = some (kb q.1) := rfl
          rw [h2] at h1
          injection h1 with h1
          exact kb_ok hq h1
        have hbody : ∀ r : Rec, ∀ c, 8 ≤ c → kb r.1 :: r.2 = ((encR r).take c).drop 8 ++ ((encR r).drop c ++ []) := fun r c hc => by
          rw [List.append_nil, ← encR_drop8 r]
          have e1 : (encR r).drop c = ((encR r).drop 8).drop (c - 8) := by rw [List.drop_drop]; congr 1; omega
          rw [e1, List.drop_take, List.take_append_drop]
        have hm := body_one hql (hpre 8 (by omega)) (hbody q (n - z) (by omega)) (by rw [hbody r (n - z) (by omega), hpre (n - z) (Nat.le_refl _)]) (by rw [List.length_drop, List.length_drop, hRQ]) (by rw [List.length_drop]; omega)
        have hqr : q = r := encR_inj hq hr (by
          rw [← List.take_append_drop (n - z) (encR q), ← List.take_append_drop (n - z) (encR r), hm, hpre (n - z) (Nat.le_refl _)])
        subst hqr
        obtain ⟨y', rfl, h'⟩ := step_scan h hq hs
        have htl : t.length < 9 := by omega
        obtain ⟨rfl, rfl⟩ := stop_len h' (scan_short htl)
        refine ⟨⟨x, rfl⟩, state_short htl, fun _ => ?_⟩
        rw [List.length_cons, List.length_nil, List.take_succ_cons, encL_cons, List.length_append]
        omega
/-- A byte behind the length of a record is changed. -/
theorem damage_law : ∀ (x : List Rec) (k : Nat) (c o : UInt8) (y : List Rec) (rest : List UInt8), (∀ r ∈ x, okR r) → (encL x)[k]? = some o → c ≠ o →
    (∀ j, j < x.length → ¬ ((encL (x.take j)).length ≤ k ∧ k < (encL (x.take j)).length + 4)) → IsScan ((encL x).set k c) y rest → y <+: x ∧ (encL y).length ≤ k
  | [], k, c, o, y, rest, hx, hk, hc, hf, h => by simp [encL] at hk
  | r :: x, k, c, o, y, rest, hx, hk, hc, hf, h => by
    have hr := hx r (by simp)
    have hx' : ∀ q ∈ x, okR q := fun q hq => hx q (by simp [hq])
    have hR := encR_length r
    rw [encL_cons] at hk h
    have h0 := hf 0 (by simp)
    rw [List.take_zero, encL_nil, List.length_nil] at h0
    by_cases hkR : (encR r).length ≤ k
    · rw [List.set_append_right _ _ hkR] at h
      rw [List.getElem?_append_right hkR] at hk
      obtain ⟨y', rfl, h'⟩ := step_scan h hr rfl
      obtain ⟨h1, h2⟩ := damage_law x (k - (encR r).length) c o y' rest hx' hk hc (fun j hj hjk => by
        have := hf (j + 1) (by simpa using hj)
        rw [List.take_succ_cons, encL_cons, List.length_append] at this
        omega) h'
      refine ⟨(List.prefix_cons_inj r).2 h1, ?_⟩
      rw [encL_cons, List.length_append]
      omega
    · have hkl : k < (encR r).length := by omega
      rw [List.set_append_left _ _ hkl] at h
      rw [List.getElem?_append_left hkl] at hk
      cases hnx : nextM ((encR r).set k c ++ encL x) with
      | none =>
        obtain ⟨rfl, _⟩ := stop_len h hnx
        exact ⟨List.nil_prefix, Nat.zero_le _⟩
      | some q =>
        exfalso
        obtain ⟨hq, t, hs⟩ := nextM_some hnx
        have hQ := encR_length q
        have h4k : 4 ≤ k := by omega
        have hql : q.2.length = r.2.length := same_len hq hr hs (by
          rw [List.take_append_of_le_length (by simp; omega), List.take_set_of_le (by omega)]
          exact encR_take4 r)
        have hqe : encR q = (encR r).set k c := by
          have h1 := congrArg (List.take (encR q).length) hs
          rw [List.take_left' rfl, List.take_append_of_le_length (by simp; omega), List.take_of_length_le (by simp; omega)] at h1
          exact h1.symm
        by_cases h8 : k < 8
        · have h1 : (encR q).drop 8 = (encR r).drop 8 := by rw [hqe, List.drop_set_of_lt h8]
          rw [encR_drop8, encR_drop8] at h1
          have h2 : encR q = encR r := by unfold encR; rw [h1, hql]
          rw [hqe] at h2
          have h3 := congrArg (fun l => l[k]?) h2
          simp only [List.getElem?_set_self hkl, hk] at h3
          injection h3 with h3
          exact hc h3
        · have h8' : (encR q).take 8 = (encR r).take 8 := by rw [hqe, List.take_set_of_le (by omega)]
          obtain ⟨hk1, hk2⟩ := List.getElem?_eq_some_iff.1 hk
          have hsplit : encR r = (encR r).take k ++ (o :: (encR r).drop (k + 1)) := by
            rw [← hk2, ← List.drop_eq_getElem_cons hk1, List.take_append_drop]
          have hsplit' : encR q = (encR r).take k ++ (c :: (encR r).drop (k + 1)) := by
            rw [hqe, List.set_eq_take_append_cons_drop, if_pos hkl]
          have hb1 : kb r.1 :: r.2 = ((encR r).take k).drop 8 ++ ([o] ++ (encR r).drop (k + 1)) := by
            rw [← encR_drop8 r]
            conv => lhs; rw [hsplit]
            rw [List.drop_append_of_le_length (by simp; omega)]
            rfl
          have hb2 : kb q.1 :: q.2 = ((encR r).take k).drop 8 ++ ([c] ++ (encR r).drop (k + 1)) := by
            rw [← encR_drop8 q]
            conv => lhs; rw [hsplit']
            rw [List.drop_append_of_le_length (by simp; omega)]
            rfl
          have := body_one hql h8' hb2 hb1 rfl (by simp)
          injection this with this
          exact hc this
end Go.Proofs.Ythkncfenhfieoaa
