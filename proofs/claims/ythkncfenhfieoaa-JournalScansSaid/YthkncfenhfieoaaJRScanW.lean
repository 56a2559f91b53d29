/- The walk of the reference's Scan. -/
import Derived.Test.YthkncfenhfieoaaJLaw2W
import Derived.Test.YthkncfenhfieoaaRegF
namespace Go.Proofs.Ythkncfenhfieoaa
open Go.RowKit
set_option linter.unusedVariables false
set_option linter.unusedSimpArgs false
theorem i64_bor (a b : Nat) (ha : a < 4294967296) (hb : b < 4294967296) : bits .or .i64 (a : Int) (b : Int) = ((a ||| b : Nat) : Int) := by
  have hx : a ||| b < 2 ^ 32 := Nat.or_lt_two_pow (by omega) (by omega)
  have h : ∀ c : Nat, c < 4294967296 → (BitVec.ofInt 64 (c : Int)).toNat = c := fun c hc => by
    rw [BitVec.ofInt_natCast, BitVec.toNat_ofNat]; exact Nat.mod_eq_of_lt (by omega)
  show IntKind.i64.wrap ((BitVec.ofInt 64 (a : Int) ||| BitVec.ofInt 64 (b : Int)).toNat : Int) = _
  rw [BitVec.toNat_or, h a ha, h b hb, IntKind.wrap_i64]
  omega
theorem be4_bits64 (a b c d : UInt8) : bits .or .i64 (bits .or .i64 (bits .or .i64 ((a.toNat : Int) * 16777216) ((b.toNat : Int) * 65536)) ((c.toNat : Int) * 256)) (d.toNat : Int) = (be4 a b c d : Int) := by
  have ha := a.toNat_lt
  have hb := b.toNat_lt
  have hc := c.toNat_lt
  have hd := d.toNat_lt
  have e1 := i64_bor (a.toNat * 16777216) (b.toNat * 65536) (by omega) (by omega)
  rw [show a.toNat * 16777216 = (a.toNat) * 2 ^ 24 by rfl, or_add _ _ 24 (by omega)] at e1
  have e2 := i64_bor (a.toNat * 2 ^ 24 + b.toNat * 65536) (c.toNat * 256) (by omega) (by omega)
  rw [show a.toNat * 2 ^ 24 + b.toNat * 65536 = (a.toNat * 256 + b.toNat) * 2 ^ 16 by omega, or_add _ _ 16 (by omega)] at e2
  have e3 := i64_bor ((a.toNat * 256 + b.toNat) * 2 ^ 16 + c.toNat * 256) d.toNat (by omega) (by omega)
  rw [show (a.toNat * 256 + b.toNat) * 2 ^ 16 + c.toNat * 256 = (a.toNat * 65536 + b.toNat * 256 + c.toNat) * 2 ^ 8 by omega, or_add _ _ 8 (by omega)] at e3
  unfold be4
  rw [show ((a.toNat : Int) * 16777216) = ((a.toNat * 2 ^ 24 : Nat) : Int) by omega, show ((b.toNat : Int) * 65536) = ((b.toNat * 65536 : Nat) : Int) by omega, e1]
  rw [show ((c.toNat : Int) * 256) = ((c.toNat * 256 : Nat) : Int) by omega, show ((a.toNat * 2 ^ 24 + b.toNat * 65536 : Nat) : Int) = (((a.toNat * 256 + b.toNat) * 2 ^ 16 : Nat) : Int) by omega, e2]
  rw [show (((a.toNat * 256 + b.toNat) * 2 ^ 16 + c.toNat * 256 : Nat) : Int) = (((a.toNat * 65536 + b.toNat * 256 + c.toNat) * 2 ^ 8 : Nat) : Int) by omega, e3]
  omega
set_option maxRecDepth 100000 in
theorem length_any (S : ByteArray) (l : List UInt8) (a b c d : UInt8) (w : World) (hS : S = bstr l) (h0 : l[0]? = some a) (h1 : l[1]? = some b) (h2 : l[2]? = some c) (h3 : l[3]? = some d) :
    Calls Try.prog 29 #[.string S] w fun e w' => e = .returned (.int .i64 ((be4 a b c d : Nat) : Int)) ∧ Below w.heap.size w w' := by
  have g0 := str_get hS h0
  have g1 := str_get hS h1
  have g2 := str_get hS h2
  have g3 := str_get hS h3
  obtain ⟨m, hm⟩ : ∃ m, m = S.size := ⟨_, rfl⟩
  have hl : 3 < m := by rw [hm, str_size hS]; exact (List.getElem?_eq_some_iff.1 h3).1
  have l0 : 0 < m := by omega
  have l1 : (1 : Int) < m := by omega
  have l2 : (2 : Int) < m := by omega
  have l3 : (3 : Int) < m := by omega
  have hm' := hm.symm
  clear hm hS h0 h1 h2 h3
  have ha := a.toNat_lt
  have hb := b.toNat_lt
  have hc := c.toNat_lt
  have hd := d.toNat_lt
  have ew : ∀ x : UInt8, IntKind.i64.wrap (x.toNat : Int) = (x.toNat : Int) := fun x => by rw [IntKind.wrap_i64]; have := x.toNat_lt; omega
  have ea : IntKind.i64.wrap ((a.toNat : Int) * 16777216) = (a.toNat : Int) * 16777216 := by rw [IntKind.wrap_i64]; omega
  have eb : IntKind.i64.wrap ((b.toNat : Int) * 65536) = (b.toNat : Int) * 65536 := by rw [IntKind.wrap_i64]; omega
  have ec : IntKind.i64.wrap ((c.toNat : Int) * 256) = (c.toNat : Int) * 256 := by rw [IntKind.wrap_i64]; omega
  have hbe := be4_bits64 a b c d
  go_enter Try.func29, Try.ntmps29
  go_wp2_with fail
  refine wp_region_K 17 (by kernel_rfl) (by kernel_rfl) (fun Q HQ => ?_)
  simp only [List.take_succ_cons, List.take_zero, List.map_cons, List.map_nil]
  repeat
    first | apply wpS_c rfl | apply wpS_gc rfl (guard_mk rfl rfl)
    focus
      intro ev wx hC hx
      (try simp [Op.operands, Call.operands, opndS, Slot.holds] at hx)
      go_simp
      try (first | exact rfl | exact ⟨Below.refl _ _, rfl⟩)
      done
    dsimp only [setS, List.set]
  refine wpS_nil (HQ _ fun w3 hC3 => ?_)
  simp only [closeS, List.drop_succ_cons, List.drop_zero, List.drop_nil]
  clear HQ
  go_wp2
  go_ret
  exact ⟨by rw [← hbe]; rfl, hC3.below⟩
/-! The region that appends. -/
def GA (W : World) (base : Nat) (s : Value) (dn : List Rec) : (Nat → Bool) → World → Prop := fun L w => W.grownBy w s.ownBlock ∧ (L 3 = false → w.ownsRow base 37 2 s dn.length (dn.flatMap recC))
def EA (r : Option Nat) : Nat → World → World → Prop := fun j w w' => w.grownBy w' r ∧ (j ≠ 3 → Below w.heap.size w w')
def PB (base : Nat) (k : Int) (SP : ByteArray) : Value → World → Prop := fun v w => ∃ gb, v = .slice (some ⟨gb, 0, none⟩) 1 1 ∧ base ≤ gb ∧ w.heap[gb]? = some (.cells #[.int .i64 k, .string SP] 37 (0, 0))
def PO (base n : Nat) (xs : List Value) : Value → World → Prop := fun v w => w.ownsRow base 37 2 v n xs
theorem GA.same {W : World} {base : Nat} {s : Value} {dn : List Rec} {L : Nat → Bool} {w w' : World} {i : Nat} (h : GA W base s dn L w) (hb : Below w.heap.size w w') (hi : i ≠ 3) : GA W base s dn (upL L i) w' := by
  refine ⟨gb_below h.1 hb, fun hL => ?_⟩
  have h3 : L 3 = false := by
    unfold upL at hL
    rwa [if_neg (fun e => hi e.symm)] at hL
  exact (h.2 h3).kept (row := none) (below_grow hb) (by cases s.ownBlock <;> simp)
theorem EA.of {r : Option Nat} {j : Nat} {w w' : World} (hb : Below w.heap.size w w') : EA r j w w' := ⟨World.grownBy.but (below_grow hb) r, fun _ => hb⟩
theorem stabPB {m : List Nat} {r : Option Nat} {base i : Nat} {k : Int} {SP : ByteArray} (hr : ∀ j, r = some j → j < base) : StabF m (EA r) i (.p (PB base k SP)) := fun _ _ _ u w w' hE ⟨gb, h1, h2, h3⟩ =>
  ⟨gb, h1, h2, (hE.1.block gb (Array.getElem?_eq_some_iff.1 h3).1 (fun e => by have := hr gb e.symm; omega)).trans h3⟩
theorem stabPO {m : List Nat} {r : Option Nat} {base n i : Nat} {xs : List Value} (hi : i = 3 ∨ (m.getD i 0).testBit 3 = true) : StabF m (EA r) i (.p (PO base n xs)) := fun j hj hm u w w' hE h => by
  have h3 : j ≠ 3 := by
    rintro rfl
    rcases hi with rfl | hi
    · exact hj rfl
    · rw [hi] at hm; cases hm
  have hb := hE.2 h3
  show w'.ownsRow _ _ _ _ _ _
  exact World.ownsRow.kept (show w.ownsRow _ _ _ _ _ _ from h) (row := none) (below_grow hb) (by cases u.ownBlock <;> simp)
theorem nextM_nine {l : List UInt8} {b0 b1 b2 b3 b4 b5 b6 b7 k : UInt8} {t : List UInt8} (h : l = b0 :: b1 :: b2 :: b3 :: b4 :: b5 :: b6 :: b7 :: k :: t) : nextM l = chkM (be4 b0 b1 b2 b3) (be4 b4 b5 b6 b7) k t := by rw [h]; rfl
theorem td_nil {td : List Rec} {rest : List UInt8} (h : nextM (encL td ++ rest) = none) (hok : ∀ r ∈ td, okR r) : td = [] := by
  cases td with
  | nil => rfl
  | cons r td =>
    rw [encL_cons, List.append_assoc, nextM_enc (hok r (by simp))] at h
    cases h
theorem td_cons {td : List Rec} {rest : List UInt8} {r : Rec} (h : nextM (encL td ++ rest) = some r) (hok : ∀ r ∈ td, okR r) (hs : nextM rest = none) : ∃ td', td = r :: td' := by
  cases td with
  | nil => rw [encL_nil, List.nil_append, hs] at h; cases h
  | cons q td =>
    rw [encL_cons, List.append_assoc, nextM_enc (hok q (by simp))] at h
    injection h with h
    exact ⟨td, by rw [h]⟩
theorem scan_shortM {s : List UInt8} (h : s.length < 9) : nextM s = none := by
  cases hn : nextM s with
  | none => rfl
  | some q =>
    obtain ⟨_, t, rfl⟩ := nextM_some hn
    rw [List.length_append, encR_length] at h
    omega
set_option maxHeartbeats 4000000 in
set_option maxRecDepth 100000 in
theorem rscan_any (S : ByteArray) (s : List UInt8) (recs : List Rec) (rest : List UInt8) (w : World) (hS : S = bstr s) (hs : s.length ≤ 100000) (hsc : IsScan s recs rest) :
    Calls Try.prog 15 #[.string S] w fun e w' => ∃ v, e = .returned (.tuple #[v, .int .i64 (((encL recs).length : Nat) : Int), .int .i64 ((stateM rest : Nat) : Int)]) ∧ w'.ownsRow w.heap.size 37 2 v recs.length (recs.flatMap recC) ∧ Below w.heap.size w w' := by
  obtain ⟨i0, hi0, hz0, hz1, hz2⟩ := info_parts info_rec2
  have hm := str_size hS
  obtain ⟨m, hmm⟩ : ∃ m, m = s.length := ⟨_, rfl⟩
  rw [← hmm] at hm hs
  have HMM := hide hmm
  have HS := hide hS
  have HSC := hide hsc
  clear hmm hS hsc
  go_enter Try.func15, Try.ntmps15
  go_wp2_with fail
  go_loopw [5, 6] (fun u i wr => ∃ (dn td : List Rec) (a : Nat), i = .int .i64 (a : Int) ∧ Hid (recs = dn ++ td) ∧ Hid (a = (encL dn).length) ∧ a ≤ m ∧ Hid (wr.ownsRow w.heap.size 37 2 u dn.length (dn.flatMap recC)) ∧ Below w.heap.size w wr) (fun _ i _ => m - (intOf i).toNat)
  case atStart => exact ⟨[], recs, 0, rfl, hide rfl, hide rfl, Nat.zero_le _, hide (World.ownsRow_nil _ _ _ _), bl_refl w⟩
  case round =>
    obtain ⟨dn, td, a, rfl, HD, HA, ham, HO, hb⟩ := hrel
    have ham' : (a : Int) ≤ (m : Int) := by omega
    obtain ⟨B, hB⟩ : ∃ B, B = encL td ++ rest := ⟨_, rfl⟩
    have hdrop : s.drop a = B := by
      rw [hB, HSC.out.eq, HD.out, encL_app, List.append_assoc, HA.out, List.drop_left]
    obtain ⟨X, hX⟩ : ∃ X, X = S.extract a m := ⟨_, rfl⟩
    have hXs : X = bstr B := by rw [hX, str_sub HS.out, List.take_of_length_le (by rw [HMM.out]; exact Nat.le_refl _), hdrop]
    have hX' := hX.symm
    have hBl : B.length = m - a := by rw [← hdrop, List.length_drop, ← HMM.out]
    obtain ⟨n, hn⟩ : ∃ n, n = B.length := ⟨_, rfl⟩
    have hXn : X.size = n := by rw [hn]; exact str_size hXs
    have hnm : n = m - a := by rw [hn, hBl]
    have hn100 : n ≤ 100000 := by omega
    have htok : ∀ r ∈ td, okR r := fun r hr => HSC.out.ok r (by rw [HD.out]; simp [hr])
    have hxl : X.toList = B := by rw [hXs, bstr_toList]
    have HXL := hide hxl
    have HXS := hide hXs
    have HB := hide hB
    have HN := hide hn
    have HNM := hide hnm
    have HTOK := hide htok
    clear hX hXs hdrop hBl hB hn hnm htok hxl
    -- what is answered where nothing more is found
    have fin : nextM B = none → ∀ st : Nat, stateM B = st → td = [] ∧ recs = dn ∧ a = (encL recs).length ∧ stateM rest = st := fun hnx st hst => by
      have h1 : td = [] := td_nil (rest := rest) (by rw [← HB.out]; exact hnx) HTOK.out
      have h2 : recs = dn := by rw [HD.out, h1, List.append_nil]
      refine ⟨h1, h2, by rw [h2]; exact HA.out, ?_⟩
      have h3 := HB.out
      rw [h1, encL_nil, List.nil_append] at h3
      rw [← h3]; exact hst
    have HFIN := hide fin
    clear fin
    by_cases hB0 : B = []
    · have hx0 : X = bstr [] := by rw [HXS.out, hB0]
      obtain ⟨h1, h2, h3, h4⟩ := HFIN.out (by rw [hB0]; rfl) 0 (by rw [hB0]; rfl)
      subst hx0
      have H3 := hide h3
      have H4 := hide h4
      have HO2 := hide (show wr.ownsRow w.heap.size 37 2 u5 recs.length (recs.flatMap recC) by rw [h2]; exact HO.out)
      clear h1 h2 h3 h4 hB0
      go_wp2
      go_ret3
      exact ⟨u5, by rw [← H3.out, H4.out]; rfl, HO2.out, hb⟩
    have hne : (X.toList == []) = false := by rw [HXL.out]; simpa using hB0
    have HB0 := hide hB0
    clear hB0
    by_cases h9 : n < 9
    · have h9' : (n : Int) < 9 := by omega
      obtain ⟨h1, h2, h3, h4⟩ := HFIN.out (scan_shortM (by rw [← HN.out]; exact h9)) 1 (by unfold stateM; rw [if_neg HB0.out, if_pos (.inl (by rw [← HN.out]; exact h9))])
      have H3 := hide h3
      have H4 := hide h4
      have HO2 := hide (show wr.ownsRow w.heap.size 37 2 u5 recs.length (recs.flatMap recC) by rw [h2]; exact HO.out)
      clear h1 h2 h3 h4 h9
      go_wp2
      go_ret3
      exact ⟨u5, by rw [← H3.out, H4.out]; rfl, HO2.out, hb⟩
    have h9' : ¬ (n : Int) < 9 := by omega
    obtain ⟨b0, b1, b2, b3, b4, b5, b6, b7, k, t, hBt⟩ := nine (l := B) (by rw [← HN.out]; exact h9)
    have hg0 : B[0]? = some b0 := by rw [hBt]; rfl
    have hg1 : B[1]? = some b1 := by rw [hBt]; rfl
    have hg2 : B[2]? = some b2 := by rw [hBt]; rfl
    have hg3 : B[3]? = some b3 := by rw [hBt]; rfl
    have hlen := fun w => length_any X B b0 b1 b2 b3 w HXS.out hg0 hg1 hg2 hg3
    have hbe : be4 (B.getD 0 0) (B.getD 1 0) (B.getD 2 0) (B.getD 3 0) = be4 b0 b1 b2 b3 := by simp only [List.getD, hg0, hg1, hg2, hg3, Option.getD_some]
    have hnx := nextM_nine hBt
    have htl : n = t.length + 9 := by rw [HN.out, hBt]; simp
    have hnl := be4_lt b0 b1 b2 b3
    obtain ⟨z, hz⟩ : ∃ z, z = be4 b0 b1 b2 b3 := ⟨_, rfl⟩
    obtain ⟨cv, hcv⟩ : ∃ cv, cv = be4 b4 b5 b6 b7 := ⟨_, rfl⟩
    rw [← hz, ← hcv] at hnx
    rw [← hz] at hbe hnl
    have hlen' : ∀ w, Calls Try.prog 29 #[.string X] w fun e w' => e = .returned (.int .i64 (z : Int)) ∧ Below w.heap.size w w' := fun w => by have := hlen w; rw [← hz] at this; exact this
    obtain ⟨q, hq⟩ : ∃ q, q = 9 + z := ⟨_, rfl⟩
    have eq1 : (9 : Int) + (z : Int) = (q : Int) := by omega
    have hk8 := str_get (i := 8) (c := k) HXS.out (by rw [hBt]; rfl)
    have HLE := hide hlen'
    have HNX := hide hnx
    have HBT := hide hBt
    have HZ := hide hz
    have HCV := hide hcv
    have HTL := hide htl
    have HQ := hide hq
    have HBE := hide hbe
    have hqb : q < 4294967305 := by omega
    clear hlen hlen' hnx hBt hz hcv htl hbe hg0 hg1 hg2 hg3 hnl hq h9
    go_wp2_with fail
    refine (HLE.out _).mono ?_
    rintro e w2 ⟨rfl, hb2⟩
    have hb02 := hb.trans (hb2.mono hb.size)
    have HO2 := hide (HO.out.kept (row := none) (below_grow hb2) (by cases u5.ownBlock <;> simp))
    by_cases hnq : n < q
    · have hnq' : (n : Int) < (q : Int) := by omega
      obtain ⟨h1, h2, h3, h4⟩ := HFIN.out (by rw [HNX.out]; exact chkM_none (.inr (.inl (by have := HTL.out; have := HQ.out; omega)))) 1 (by unfold stateM; rw [if_neg HB0.out, HBE.out, if_pos (.inr (.inl (by rw [← HN.out, ← HQ.out]; exact hnq)))])
      have H3 := hide h3
      have H4 := hide h4
      have HO3 := hide (show w2.ownsRow w.heap.size 37 2 u5 recs.length (recs.flatMap recC) by rw [h2]; exact HO2.out)
      clear h1 h2 h3 h4 hnq
      go_wp2
      go_ret3
      exact ⟨u5, by rw [← H3.out, H4.out]; rfl, HO3.out, hb02⟩
    have hnq' : ¬ (n : Int) < (q : Int) := by omega
    have hqn : (q : Int) ≤ (n : Int) := by omega
    have hq9 : (9 : Int) ≤ (q : Int) := by have := HQ.out; omega
    have hn8 : (8 : Int) < (n : Int) := by omega
    have ewq : IntKind.i64.wrap (q : Int) = (q : Int) := by rw [IntKind.wrap_i64]; omega
    have hzt : z ≤ t.length := by have := HTL.out; have := HQ.out; omega
    obtain ⟨P, hP⟩ : ∃ P, P = t.take z := ⟨_, rfl⟩
    have hPl : P.length = z := by rw [hP]; simp; omega
    obtain ⟨SPP, hSPP⟩ : ∃ SPP, SPP = X.extract 9 q := ⟨_, rfl⟩
    have hSP : SPP = bstr P := by rw [hSPP, str_sub HXS.out, HBT.out, HQ.out, hP, Nat.add_comm]; rfl
    have hSPP' := hSPP.symm
    have hSPs : SPP.size = z := by rw [str_size hSP, hPl]
    obtain ⟨X1, hX1⟩ : ∃ X1, X1 = X.extract 0 q := ⟨_, rfl⟩
    have hX1s : X1 = bstr (B.take q) := by rw [hX1, str_sub HXS.out, List.drop_zero]
    have hX1' := hX1.symm
    obtain ⟨kz, hkz⟩ : ∃ kz : Int, kz = (k.toNat : Int) := ⟨_, rfl⟩
    have hkz' := hkz.symm
    have hkt := k.toNat_lt
    have ewk : IntKind.i64.wrap kz = kz := by rw [hkz, IntKind.wrap_i64]; omega
    have hzb : z ≤ 100000 := by have := HTL.out; omega
    have HP := hide hP
    have HPL := hide hPl
    have HSP := hide hSP
    have HX1 := hide hX1s
    have HKZ := hide hkz
    have HZT := hide hzt
    have hqz : q ≤ 100009 := by have := HQ.out; omega
    clear hP hPl hSPP hSP hX1 hX1s hkz hkt hzt hnq
    go_wp2_with fail
    refine wp_region_K 10 (by kernel_rfl) (by kernel_rfl) (fun Q HQ => ?_)
    simp only [List.take_succ_cons, List.take_zero, List.map_cons, List.map_nil]
    repeat
      first | apply wpS_c rfl | apply wpS_gc rfl (guard_mk rfl rfl)
      focus
        intro ev wx hC hx
        (try simp [Op.operands, Call.operands, opndS, Slot.holds] at hx)
        go_simp
        try (first | exact rfl | exact ⟨Below.refl _ _, rfl⟩ | (go_at_call 29; refine (HLE.out _).mono ?_; rintro e w' ⟨rfl, hb⟩; exact ⟨rfl, hb⟩))
        done
      dsimp only [setS, List.set]
    refine wpS_p (R := NewBox w2.heap.size #[.int .i64 0, .string ⟨#[]⟩] 37) rfl (stab_box _ _ _) ?_ ?_
    focus
      intro ev wx hC hx
      (try simp [Op.operands, Call.operands, opndS, Slot.holds] at hx)
      go_simp
      exact ⟨bl_alloc (bl_refl wx) _, box_new wx hC.below.size⟩
    dsimp only [setS, List.set]
    refine wpS_nil (HQ _ fun w3 hC3 => ?_)
    simp only [closeS, List.drop_succ_cons, List.drop_zero, List.drop_nil]
    clear HQ
    rintro v0 ⟨_, g0, rfl, hg0, hc0⟩
    have hb23 := hC3.below
    have a0 : w3.cell? ⟨g0, 0, none⟩ = some (.int .i64 0) := cell_of_row w3 _ 0 _ _ _ hc0
    have a1 : w3.cell? ⟨g0, 1, none⟩ = some (.string ⟨#[]⟩) := cell_of_row w3 _ 1 _ _ _ hc0
    have fz0 : ∀ j, w3.frozen? ⟨g0, j, none⟩ = false := fun j => by simp [World.frozen?, hc0]
    obtain ⟨w4, hw4⟩ : ∃ w4, w4 = (w3.setCell ⟨g0, 0, none⟩ (.int .i64 kz)).setCell ⟨g0, 1, none⟩ (.string SPP) := ⟨_, rfl⟩
    have hb24 : Below w2.heap.size w2 w4 := by rw [hw4]; exact bl_set (p := ⟨g0, 1, none⟩) (bl_set (p := ⟨g0, 0, none⟩) hb23 hg0 _) hg0 _
    have hr4 : w4.heap[g0]? = some (.cells #[.int .i64 kz, .string SPP] 37 (0, 0)) := by
      rw [hw4]
      simp [World.setCell, Array.getElem?_modify, hc0]
    have d0 : w4.cell? ⟨g0, 0, none⟩ = some (.int .i64 kz) := cell_of_row w4 _ 0 _ _ _ hr4
    have d1 : w4.cell? ⟨g0, 1, none⟩ = some (.string SPP) := cell_of_row w4 _ 1 _ _ _ hr4
    have HR4 := hide hr4
    have HO4 := hide (HO2.out.kept (row := none) (below_grow hb24) (by cases u5.ownBlock <;> simp))
    have hb04 := hb02.trans (hb24.mono hb02.size)
    have hg0w : w2.heap.size ≤ g0 := hg0
    have HNEO := hide (show some g0 ≠ u5.ownBlock from fun e => by have := (HO2.out.lt g0 e.symm).2; omega)
    clear hC3 hc0 hb23 hb24 hr4 hb2
    go_wp2_with fail
    rw [← hw4]
    clear hw4 a0 a1 fz0
    refine (renc_any kz SPP P w4 HSP.out (by rw [HPL.out]; omega)).mono ?_
    rintro e w5 ⟨rfl, hb5⟩
    have hb05 := hb04.trans (hb5.mono hb04.size)
    have HO5 := hide (HO4.out.kept (row := none) (below_grow hb5) (by cases u5.ownBlock <;> simp))
    have HR5 := hide ((hb5.block g0 (Array.getElem?_eq_some_iff.1 HR4.out).1).trans HR4.out)
    clear d0 d1 hb5
    -- nothing more is found: the last byte
    by_cases hz0 : encE (kz, P) = 0
    · obtain ⟨Y, hY⟩ : ∃ Y, Y = bstr (encR (kz, P)) := ⟨_, rfl⟩
      have hYs : Y.size = q := by rw [str_size hY, encR_length, HQ.out]; show 9 + P.length = _; rw [HPL.out]
      have hev : encV (kz, P) = .returned (.tuple #[.string Y, .int .i64 0]) := by unfold encV; rw [hz0, encO_ok (encE_zero hz0), hY]; rfl
      rw [hev]
      by_cases heq : encR (kz, P) = B.take q
      · have hYX : X1 = Y := by rw [hY, heq]; exact HX1.out
        subst hYX
        have hsome : nextM B = some (kz, P) := by
          have h1 := nextM_enc (encE_zero hz0) (B.drop q)
          rwa [heq, List.take_append_drop] at h1
        obtain ⟨td', htd⟩ := td_cons (rest := rest) (by rw [← HB.out]; exact hsome) HTOK.out HSC.out.stop
        have HTD := hide htd
        have e0 : w5.cell? ⟨g0, 0, none⟩ = some (.int .i64 kz) := cell_of_row w5 _ 0 _ _ _ HR5.out
        have e1 : w5.cell? ⟨g0, 1, none⟩ = some (.string X1) ∨ True := .inr trivial
        clear hev hY heq hsome htd hz0 e1
        obtain ⟨a9, ha9⟩ : ∃ a9, a9 = a + 9 := ⟨_, rfl⟩
        obtain ⟨aq, haq⟩ : ∃ aq, aq = a9 + z := ⟨_, rfl⟩
        have ea9 : (a : Int) + 9 = (a9 : Int) := by omega
        have eaq : (a9 : Int) + (z : Int) = (aq : Int) := by omega
        have ew9 : IntKind.i64.wrap (a9 : Int) = (a9 : Int) := by rw [IntKind.wrap_i64]; omega
        have ewa : IntKind.i64.wrap (aq : Int) = (aq : Int) := by rw [IntKind.wrap_i64]; omega
        have haqm : aq ≤ m := by have := HNM.out; have := HQ.out; omega
        have hgq : a < aq := by omega
        have HAQ := hide (show aq = a + (9 + z) by omega)
        have hdn : dn.length ≤ 100000 := by
          have h2 : ∀ l : List Rec, l.length ≤ (encL l).length := fun l => by
            induction l with
            | nil => simp
            | cons q l ih => rw [encL_cons, List.length_append, encR_length, List.length_cons]; omega
          have := h2 dn; have := HA.out; omega
        have hgw5 : w.heap.size ≤ w5.heap.size := hb05.size
        have hg0l : g0 < w5.heap.size := (Array.getElem?_eq_some_iff.1 HR5.out).1
        have hrb : ∀ j, u5.ownBlock = some j → j < w5.heap.size := fun j hj => (HO5.out.lt j hj).2
        clear ha9 haq e0
        go_wp2_with fail
        have hstart : GA w5 w.heap.size u5 dn (fun _ => false) w5.drew := ⟨⟨rfl, rfl, rfl, Nat.le_refl _, fun _ _ _ => rfl⟩, fun _ => HO5.out⟩
        refine wp_region_F 12 (GA w5 w.heap.size u5 dn) (EA u5.ownBlock) (by kernel_rfl) (by kernel_rfl) hstart (fun Q HQ => ?_)
        simp only [List.take_succ_cons, List.take_zero, List.map_cons, List.map_nil]
        have triv : ∀ {L : Nat → Bool} {wx : World} {i : Nat}, GA w5 w.heap.size u5 dn L wx → i ≠ 3 → GA w5 w.heap.size u5 dn (upL L i) wx ∧ EA u5.ownBlock i wx wx := fun h hi => ⟨h.same (Below.refl _ _) hi, EA.of (Below.refl _ _)⟩
        have cel : ∀ {L : Nat → Bool} {wx : World}, GA w5 w.heap.size u5 dn L wx → wx.heap[g0]? = some (.cells #[.int .i64 kz, .string SPP] 37 (0, 0)) := fun h => (h.1.block g0 hg0l HNEO.out).trans HR5.out
        apply wpF_c rfl
        focus
          intro L ev wx hG hL hM hx
          (try simp [Op.operands, Call.operands, opndS, Slot.holds] at hx)
          go_simp
          exact ⟨(triv hG (by decide)).1, (triv (i := 0) hG (by decide)).2, rfl⟩
        dsimp only [setS, List.set]
        apply wpF_c (v := .agg #[.int .i64 kz, .string SPP]) rfl
        focus
          intro L ev wx hG hL hM hx
          (try simp [Op.operands, Call.operands, opndS, Slot.holds] at hx)
          have hbx := cel hG
          have x0 : wx.cell? ⟨g0, 0, none⟩ = some (.int .i64 kz) := cell_of_row wx _ 0 _ _ _ hbx
          have x1 : wx.cell? ⟨g0, 1, none⟩ = some (.string SPP) := cell_of_row wx _ 1 _ _ _ hbx
          go_simp
          exact ⟨(triv hG (by decide)).1, (triv (i := 1) hG (by decide)).2, rfl⟩
        dsimp only [setS, List.set]
        refine wpF_p (R := PB w5.heap.size kz SPP) rfl (stabPB hrb) ?_ ?_
        focus
          intro L ev wx hG hL hM hx
          (try simp [Op.operands, Call.operands, opndS, Slot.holds] at hx)
          go_simp
          exact ⟨hG.same (bl_alloc (bl_refl wx) _) (by decide), EA.of (bl_alloc (bl_refl wx) _), wx.heap.size, rfl, hG.1.size, heap_alloc_new wx _⟩
        dsimp only [setS, List.set]
        refine wpF_p (R := PO w.heap.size (dn.length + 1) (dn.flatMap recC ++ recC (kz, P))) rfl (stabPO (.inl rfl)) ?_ ?_
        focus
          intro L ev wx hG hL hM hx
          (try simp [Op.operands, Call.operands, opndS, Slot.holds] at hx)
          obtain ⟨hv65, gb, hv67, hgb, hcb⟩ := hx
          have hrdx : Rd wx (some ⟨gb, 0, none⟩) (recC (kz, P)) := .inr ⟨gb, 0, rfl, (Array.getElem?_eq_some_iff.1 hcb).1, fun j v hv => by rw [Nat.zero_add, cell_of_row wx gb j _ _ _ hcb]; simpa [recC, HSP.out] using hv⟩
          obtain ⟨v', w', hrun, h2, h3, h4⟩ := run_append_rd (P := Try.prog) wx w.heap.size 26 26 37 i0 _ 2 24 Try.underlying26 hi0 hz0 hz1 hz2 rfl (by omega) u5 dn.length (dn.flatMap recC) (hG.2 hL) (some ⟨gb, 0, none⟩) 1 1 (recC (kz, P)) rfl hrdx (by intro u hu; simp [recC] at hu; rcases hu with rfl | rfl <;> rfl) (by simp only [maxLen]; omega) (by omega) (Nat.le_trans hgw5 hG.1.size)
          unfold execOp
          simp only [resolve, invoke, builtin, Sem.run_bind, Sem.run_pure, Result.andThen_ok, List.map_toArray, List.map_cons, List.map_nil, hv65, hv67, hrun]
          exact ⟨⟨hG.1.trans h3, fun h => by simp [upL] at h⟩, ⟨h3, fun h => absurd rfl h⟩, h2⟩
        dsimp only [setS, List.set]
        apply wpF_c rfl
        focus
          intro L ev wx hG hL hM hx
          (try simp [Op.operands, Call.operands, opndS, Slot.holds] at hx)
          go_simp
          exact ⟨(triv hG (by decide)).1, (triv (i := 4) hG (by decide)).2, rfl⟩
        dsimp only [setS, List.set]
        apply wpF_c (v := .int .i64 (a9 : Int)) rfl
        focus
          intro L ev wx hG hL hM hx
          (try simp [Op.operands, Call.operands, opndS, Slot.holds] at hx)
          go_simp
          exact ⟨(triv hG (by decide)).1, (triv (i := 5) hG (by decide)).2, rfl⟩
        dsimp only [setS, List.set]
        apply wpF_c rfl
        focus
          intro L ev wx hG hL hM hx
          (try simp [Op.operands, Call.operands, opndS, Slot.holds] at hx)
          go_simp
          exact ⟨(triv hG (by decide)).1, (triv (i := 6) hG (by decide)).2, rfl⟩
        dsimp only [setS, List.set]
        apply wpF_c (v := .string SPP) rfl
        focus
          intro L ev wx hG hL hM hx
          (try simp [Op.operands, Call.operands, opndS, Slot.holds] at hx)
          have hbx := cel hG
          have x0 : wx.cell? ⟨g0, 0, none⟩ = some (.int .i64 kz) := cell_of_row wx _ 0 _ _ _ hbx
          have x1 : wx.cell? ⟨g0, 1, none⟩ = some (.string SPP) := cell_of_row wx _ 1 _ _ _ hbx
          go_simp
          exact ⟨(triv hG (by decide)).1, (triv (i := 7) hG (by decide)).2, rfl⟩
        dsimp only [setS, List.set]
        apply wpF_c (v := .int .i64 (z : Int)) rfl
        focus
          intro L ev wx hG hL hM hx
          (try simp [Op.operands, Call.operands, opndS, Slot.holds] at hx)
          go_simp
          exact ⟨(triv hG (by decide)).1, (triv (i := 8) hG (by decide)).2, rfl⟩
        dsimp only [setS, List.set]
        apply wpF_c (v := .int .i64 (aq : Int)) rfl
        focus
          intro L ev wx hG hL hM hx
          (try simp [Op.operands, Call.operands, opndS, Slot.holds] at hx)
          go_simp
          exact ⟨(triv hG (by decide)).1, (triv (i := 9) hG (by decide)).2, rfl⟩
        dsimp only [setS, List.set]
        refine wpF_p (R := PO w.heap.size (dn.length + 1) (dn.flatMap recC ++ recC (kz, P))) rfl (stabPO (.inr (by kernel_rfl))) ?_ ?_
        focus
          intro L ev wx hG hL hM hx
          (try simp [Op.operands, Call.operands, opndS, Slot.holds] at hx)
          go_simp
          exact ⟨(triv hG (by decide)).1, (triv (i := 10) hG (by decide)).2, hx⟩
        dsimp only [setS, List.set]
        apply wpF_c rfl
        focus
          intro L ev wx hG hL hM hx
          (try simp [Op.operands, Call.operands, opndS, Slot.holds] at hx)
          go_simp
          exact ⟨(triv hG (by decide)).1, (triv (i := 11) hG (by decide)).2, rfl⟩
        dsimp only [setS, List.set]
        refine wpF_nil (HQ _ fun w6 hG6 => ?_)
        simp only [closeS, List.drop_succ_cons, List.drop_zero, List.drop_nil]
        clear HQ hstart triv cel
        rintro v5 hown v67 - v68 -
        have HOW := hide (show w6.ownsRow w.heap.size 37 2 v5 (dn.length + 1) (dn.flatMap recC ++ recC (kz, P)) from hown)
        have hb06 : Below w.heap.size w w6 := bl_grown hb05 hG6.1 (fun j hj => (HO5.out.lt j hj).1)
        clear hown hG6
        go_wp2
        go_roundw
        case rel =>
          refine ⟨dn ++ [(kz, P)], td', aq, rfl, hide ?_, hide ?_, haqm, hide ?_, hb06⟩
          · rw [HD.out, HTD.out]; simp
          · rw [encL_snoc, List.length_append, encR_length, ← HA.out, HAQ.out]
            show _ = a + (9 + P.length)
            rw [HPL.out]
          · rw [List.length_append, List.flatMap_append]
            simpa using HOW.out
        case measure => simp [intOf]; omega
      · have hne2 : (Y.toList == X1.toList) = false := by
          rw [hY, HX1.out, bstr_toList, bstr_toList]
          simpa using heq
        have hnone : nextM B = none := by
          rw [HNX.out]
          refine chkM_none (.inr (.inr (.inr fun h => heq ?_)))
          have h1 := parse_enc (n := z) (m := cv) (k := k) (t := t) (a := b0) (b := b1) (c := b2) (d := b3) (e := b4) (f := b5) (g := b6) (h := b7) (by rw [HZ.out]; exact be4L_be4 _ _ _ _) (by rw [HCV.out]; exact be4L_be4 _ _ _ _) HZT.out h
          rw [← HBT.out, ← HP.out, ← HKZ.out] at h1
          rw [h1, List.take_left']
          rw [encR_length, HQ.out]
          show 9 + P.length = _
          rw [HPL.out]
        have HNONE := hide hnone
        clear hev hY heq hnone hz0
        obtain ⟨c, hc, hXc⟩ := str_at HXS.out (i := n - 1) (by have := HN.out; omega)
        have hlast : B.getLast? = some c := by rw [List.getLast?_eq_getElem?, ← HN.out]; exact hc
        have HLA := hide hlast
        have HNQ := hide (show ¬ B.length < 9 + z by rw [← HN.out, ← HQ.out]; omega)
        have HN9 := hide (show ¬ B.length < 9 by rw [← HN.out]; omega)
        obtain ⟨n1, rfl⟩ : ∃ n1, n = n1 + 1 := ⟨n - 1, by omega⟩
        rw [Nat.add_sub_cancel] at hXc
        have hn1b : n1 ≤ 100000 := by omega
        clear hc hlast
        by_cases hc0 : c = 0
        · subst hc0
          obtain ⟨h1, h2, h3, h4⟩ := HFIN.out HNONE.out 1 (by unfold stateM; rw [if_neg HB0.out, if_pos (.inr (.inr HLA.out))])
          have H3 := hide h3
          have H4 := hide h4
          have HO3 := hide (show w5.ownsRow w.heap.size 37 2 u5 recs.length (recs.flatMap recC) by rw [h2]; exact HO5.out)
          clear h1 h2 h3 h4
          go_wp2
          go_ret3
          exact ⟨u5, by rw [← H3.out, H4.out]; rfl, HO3.out, hb05⟩
        · have hcz : ((c.toNat : Int) == 0) = false := by rw [beq_eq_false_iff_ne]; intro h; exact hc0 (UInt8.toNat_inj.1 (by show c.toNat = 0; omega))
          obtain ⟨h1, h2, h3, h4⟩ := HFIN.out HNONE.out 2 (by
            unfold stateM
            rw [if_neg HB0.out, HBE.out, if_neg]
            rintro (h | h | h)
            · exact HN9.out h
            · exact HNQ.out h
            · rw [HLA.out] at h; injection h with h; exact hc0 h)
          have H3 := hide h3
          have H4 := hide h4
          have HO3 := hide (show w5.ownsRow w.heap.size 37 2 u5 recs.length (recs.flatMap recC) by rw [h2]; exact HO5.out)
          clear h1 h2 h3 h4 hc0
          go_wp2
          go_ret3
          exact ⟨u5, by rw [← H3.out, H4.out]; rfl, HO3.out, hb05⟩
    · obtain ⟨Y, hY⟩ : ∃ Y, Y = bstr (encO (kz, P)) := ⟨_, rfl⟩
      obtain ⟨ee, hee⟩ : ∃ ee, ee = encE (kz, P) := ⟨_, rfl⟩
      have hev : encV (kz, P) = .returned (.tuple #[.string Y, .int .i64 (ee : Int)]) := by unfold encV; rw [hY, hee]
      rw [hev]
      have hee0 : ((ee : Int) != 0) = true := by rw [bne_iff_ne]; intro h; exact hz0 (by omega)
      have hnone : nextM B = none := by
        rw [HNX.out]
        refine chkM_none (.inr (.inr (.inl ?_)))
        have h2 : ¬ (kz = 1 ∨ kz = 2) := fun h => hz0 (encE_ok ⟨h, by show P.length ≤ 1048576; rw [HPL.out]; omega⟩)
        exact ⟨fun h => h2 (.inl (by rw [HKZ.out, h]; rfl)), fun h => h2 (.inr (by rw [HKZ.out, h]; rfl))⟩
      have HNONE := hide hnone
      clear hev hY hee hnone hz0
      obtain ⟨c, hc, hXc⟩ := str_at HXS.out (i := n - 1) (by have := HN.out; omega)
      have hlast : B.getLast? = some c := by rw [List.getLast?_eq_getElem?, ← HN.out]; exact hc
      have HLA := hide hlast
      have HNQ := hide (show ¬ B.length < 9 + z by rw [← HN.out, ← HQ.out]; omega)
      have HN9 := hide (show ¬ B.length < 9 by rw [← HN.out]; omega)
      obtain ⟨n1, rfl⟩ : ∃ n1, n = n1 + 1 := ⟨n - 1, by omega⟩
      rw [Nat.add_sub_cancel] at hXc
      have hn1b : n1 ≤ 100000 := by omega
      clear hc hlast
      by_cases hc0 : c = 0
      · subst hc0
        obtain ⟨h1, h2, h3, h4⟩ := HFIN.out HNONE.out 1 (by unfold stateM; rw [if_neg HB0.out, if_pos (.inr (.inr HLA.out))])
        have H3 := hide h3
        have H4 := hide h4
        have HO3 := hide (show w5.ownsRow w.heap.size 37 2 u5 recs.length (recs.flatMap recC) by rw [h2]; exact HO5.out)
        clear h1 h2 h3 h4
        go_wp2
        go_ret3
        exact ⟨u5, by rw [← H3.out, H4.out]; rfl, HO3.out, hb05⟩
      · have hcz : ((c.toNat : Int) == 0) = false := by rw [beq_eq_false_iff_ne]; intro h; exact hc0 (UInt8.toNat_inj.1 (by show c.toNat = 0; omega))
        obtain ⟨h1, h2, h3, h4⟩ := HFIN.out HNONE.out 2 (by
          unfold stateM
          rw [if_neg HB0.out, HBE.out, if_neg]
          rintro (h | h | h)
          · exact HN9.out h
          · exact HNQ.out h
          · rw [HLA.out] at h; injection h with h; exact hc0 h)
        have H3 := hide h3
        have H4 := hide h4
        have HO3 := hide (show w5.ownsRow w.heap.size 37 2 u5 recs.length (recs.flatMap recC) by rw [h2]; exact HO5.out)
        clear h1 h2 h3 h4 hc0
        go_wp2
        go_ret3
        exact ⟨u5, by rw [← H3.out, H4.out]; rfl, HO3.out, hb05⟩
end Go.Proofs.Ythkncfenhfieoaa
