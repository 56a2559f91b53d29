/- The walk of the law BitioWrites. -/
import Derived.Test.YtimcbgcjnfdcaaaRWriteW
import Derived.Test.YtimcbgcjnfdcaaaPackW
namespace Go.Proofs.Ytimcbgcjnfdcaaa
open Go.RowKit
set_option linter.unusedVariables false
set_option linter.unusedSimpArgs false
theorem WStep.unalloc {base g : Nat} {r : Option Nat} {w w' : World} {l' : List Bool} {o : Obj} (h : WStep base g r (w.alloc o) l' w') : WStep base g r w l' w' := by
  obtain ⟨r', hs, hc, hr⟩ := h
  refine ⟨r', hs, ⟨hc.os, hc.tape, hc.output, by have := hc.size; simp at this; omega, fun k hk h1 h2 => (hc.block k (by simp; omega) h1 h2).trans (Below.heap_alloc w o k hk)⟩, hr.imp id fun ⟨k, h, hk⟩ => ⟨k, h, by simp at hk; omega⟩⟩
set_option maxRecDepth 100000 in
theorem lwrite_any (base g : Nat) (r : Option Nat) (l : List Bool) (k v n : Int) (vn : Nat) (w : World) (hv : v = vn) (hvb : vn < 2 ^ 64) (hw : WrS w base g r l) (hl : l.length < 60000000) (hbs : base ≤ w.heap.size) :
    Calls Try.prog 25 #[.pointer (some ⟨g, 0, none⟩), .agg #[.int .i64 k, .int .u64 v, .int .i64 n]] w fun e w' => e = .returned (.int .i64 (cod (wCall k vn n))) ∧ WStep base g r w (l ++ (wCall k vn n).getD []) w' := by
  have HW := hide hw
  have HB := hide hvb
  have HL := hide hl
  subst hv
  clear hw hvb hl
  go_enter Try.func25, Try.ntmps25
  by_cases h0 : k = 0
  · subst h0
    rw [show wCall 0 vn n = wBits vn n from rfl]
    go_wp2_with fail
    have HW2 := hide (HW.out.below (bl_alloc (bl_refl w) (.cells #[.int .i64 0, .int .u64 (vn : Int), .int .i64 n] 44)))
    refine (wbits_any base g r l vn n vn _ rfl HB.out HW2.out (Nat.lt_trans HL.out (by omega)) (by simp; omega)).mono ?_
    rintro e w2 ⟨rfl, hst⟩
    go_wp2
    go_ret
    exact ⟨rfl, hst.unalloc⟩
  have t0 : (k == 0) = false := by rw [beq_eq_false_iff_ne]; exact h0
  by_cases h1 : k = 1
  · subst h1
    rw [show wCall 1 vn n = wUnary n from rfl]
    go_wp2_with fail
    have HW2 := hide (HW.out.below (bl_alloc (bl_refl w) (.cells #[.int .i64 1, .int .u64 (vn : Int), .int .i64 n] 44)))
    refine (wunary_any base g r l n _ HW2.out (Nat.lt_trans HL.out (by omega)) (by simp; omega)).mono ?_
    rintro e w2 ⟨rfl, hst⟩
    go_wp2
    go_ret
    exact ⟨rfl, hst.unalloc⟩
  have t1 : (k == 1) = false := by rw [beq_eq_false_iff_ne]; exact h1
  by_cases h2 : k = 2
  · subst h2
    rw [show wCall 2 vn n = wGamma vn from rfl]
    go_wp2_with fail
    have HW2 := hide (HW.out.below (bl_alloc (bl_refl w) (.cells #[.int .i64 2, .int .u64 (vn : Int), .int .i64 n] 44)))
    refine (wgamma_any base g r l vn vn _ rfl HB.out HW2.out (Nat.lt_trans HL.out (by omega)) (by simp; omega)).mono ?_
    rintro e w2 ⟨rfl, hst⟩
    go_wp2
    go_ret
    exact ⟨rfl, hst.unalloc⟩
  have t2 : (k == 2) = false := by rw [beq_eq_false_iff_ne]; exact h2
  rw [show wCall k vn n = wDelta vn by unfold wCall; rw [if_neg h0, if_neg h1, if_neg h2]]
  clear h0 h1 h2
  go_wp2_with fail
  have HW2 := hide (HW.out.below (bl_alloc (bl_refl w) (.cells #[.int .i64 k, .int .u64 (vn : Int), .int .i64 n] 44)))
  refine (wdelta_any base g r l vn vn _ rfl HB.out HW2.out (Nat.lt_trans HL.out (by omega)) (by simp; omega)).mono ?_
  rintro e w2 ⟨rfl, hst⟩
  go_wp2
  go_ret
  exact ⟨rfl, hst.unalloc⟩

/-- A slice of calls. -/
def callCells (c : Int × Nat × Int) : List Value := [.int .i64 c.1, .int .u64 (c.2.1 : Int), .int .i64 c.2.2]
def IsCalls (w : World) (a : Option Addr) (len : Nat) (cs : List (Int × Nat × Int)) : Prop :=
  cs.length = len ∧ (∀ c ∈ cs, c.2.1 < 2 ^ 64) ∧ Rd w a (cs.flatMap callCells)
theorem calls_get (cs : List (Int × Nat × Int)) (k j : Nat) (c : Int × Nat × Int) (v : Value) (hk : cs[k]? = some c) (hj : (callCells c)[j]? = some v) : (cs.flatMap callCells)[k * 3 + j]? = some v := by
  have hj3 : j < 3 := by have := (List.getElem?_eq_some_iff.1 hj).1; simpa [callCells] using this
  induction cs generalizing k with
  | nil => simp at hk
  | cons d cs ih =>
    rw [List.flatMap_cons]
    cases k with
    | zero =>
      simp at hk; subst hk
      rw [List.getElem?_append_left (by simpa [callCells] using hj3)]
      simpa using hj
    | succ k =>
      rw [List.getElem?_append_right (by simp [callCells]; omega)]
      have := ih k (by simpa using hk)
      rw [← this]
      congr 1
      simp [callCells]; omega
theorem IsCalls.below {w w' : World} {a : Option Addr} {len : Nat} {cs : List (Int × Nat × Int)} (h : IsCalls w a len cs) (hb : Below w.heap.size w w') : IsCalls w' a len cs := ⟨h.1, h.2.1, h.2.2.below hb⟩
theorem IsCalls.at_ {w : World} {a : Option Addr} {len : Nat} {cs : List (Int × Nat × Int)} (h : IsCalls w a len cs) {k : Nat} (hk : k < len) :
    ∃ b o c, a = some ⟨b, o, none⟩ ∧ b < w.heap.size ∧ cs[k]? = some c ∧ c.2.1 < 2 ^ 64 ∧ w.cell? ⟨b, o + k * 3, none⟩ = some (.int .i64 c.1) ∧ w.cell? ⟨b, o + k * 3 + 1, none⟩ = some (.int .u64 (c.2.1 : Int)) ∧ w.cell? ⟨b, o + k * 3 + 2, none⟩ = some (.int .i64 c.2.2) := by
  obtain ⟨h1, h2, h3⟩ := h
  have hc : cs[k]? = some (cs[k]'(by omega)) := List.getElem?_eq_getElem _
  obtain ⟨b, o, ha, hb, e0⟩ := h3.at_ (calls_get cs k 0 _ _ hc rfl)
  obtain ⟨b1, o1, ha1, _, e1⟩ := h3.at_ (calls_get cs k 1 _ _ hc rfl)
  obtain ⟨b2, o2, ha2, _, e2⟩ := h3.at_ (calls_get cs k 2 _ _ hc rfl)
  rw [ha] at ha1 ha2
  injection ha1 with ha1; injection ha1 with q1 q2; subst q1 q2
  injection ha2 with ha2; injection ha2 with q1 q2; subst q1 q2
  exact ⟨b, o, _, ha, hb, hc, h2 _ (List.getElem_mem _), by simpa using e0, by rw [Nat.add_assoc]; exact e1, by rw [Nat.add_assoc]; exact e2⟩
theorem own_blocks {w w' : World} {base : Nat} {e : TypeId} {v : Value} {n : Nat} {xs : List Value} (h : w.ownsRow base e 1 v n xs) (hb : ∀ k, v.ownBlock = some k → w'.heap[k]? = w.heap[k]?) : w'.ownsRow base e 1 v n xs := by
  refine ⟨h.1, ?_⟩
  rcases h.2 with h | ⟨g', cap, cur, rfl, h2, h3, h4⟩
  · exact .inl h
  · exact .inr ⟨g', cap, cur, rfl, h2, (hb g' rfl).trans h3, h4⟩
theorem own_step {base g : Nat} {r : Option Nat} {w w' : World} {l' : List Bool} (hst : WStep base g r w l' w') {b : Nat} {e : TypeId} {v : Value} {n : Nat} {xs : List Value} (h : w.ownsRow b e 1 v n xs) (h1 : v.ownBlock ≠ some g) (h2 : ∀ j, v.ownBlock = some j → r ≠ some j) : w'.ownsRow b e 1 v n xs := by
  obtain ⟨r', _, hc, _⟩ := hst
  exact own_blocks h fun k hk => hc.block k (h.lt k hk).2 (fun e => h1 (by rw [hk, e])) (fun e => h2 k hk e.symm)
theorem WRes.row {o : Option (List Bool)} {base : Nat} {e : Ending} {w : World} (h : WRes o base e w) : ∃ v, e = .returned (.tuple #[v, .bool o.isSome]) ∧ w.ownsRow base 4 1 v (o.getD []).length ((o.getD []).map Value.bool) := by
  cases o with
  | none => exact ⟨_, h, ⟨rfl, .inl ⟨rfl, rfl⟩⟩⟩
  | some l => exact h
theorem wCall_length (k : Int) (v : Nat) (n : Int) (h : v < 2 ^ 64) : ((wCall k v n).getD []).length ≤ 5000 := by
  have h1 := bl_64 v h
  unfold wCall
  split
  · unfold wBits; split
    · simp [lowB_length]; omega
    · simp
  · split
    · unfold wUnary; split
      · simp; omega
      · simp
    · split
      · unfold wGamma; split
        · simp
        · have := gamB_length v h1; simp; omega
      · unfold wDelta; split
        · simp
        · have := gamB_length (Lib.bitLen v) (bl_64 _ (by omega)); simp [lowB_length]; omega
namespace bitioWrites
set_option maxHeartbeats 1000000 in
set_option maxRecDepth 100000 in
theorem walk (a : Option Addr) (len cap : Nat) (cs : List (Int × Nat × Int)) (w : World) (hcs : IsCalls w a len cs) :
    Calls Try.prog 8 #[.slice a len cap] w fun e w' => e = .returned (.bool true) ∧ Below w.heap.size w w' := by
  have HC := hide hcs
  clear hcs
  obtain ⟨i0, hi0, hz0, hz1, hz2⟩ := info_parts info_bool
  go_enter Try.func8, Try.ntmps8
  go_wp2_with fail
  refine (newwriter_any w).mono ?_
  rintro e w1 ⟨rfl, hs1, hb1⟩
  have HS1 := hide hs1
  clear hs1
  by_cases h12 : 12 < len
  · go_wp2
    go_ret
    exact ⟨rfl, hb1⟩
  go_wp2_with fail
  go_loopw [4, 18] (fun s i wr => ∃ (k : Nat) (l : List Bool) (r : Option Nat), i = .int .i64 (k : Int) ∧ k ≤ len ∧ l.length ≤ k * 10000 ∧ WrS wr w.heap.size w.heap.size r l ∧ wr.ownsRow w.heap.size 4 1 s l.length (l.map Value.bool) ∧ Below w.heap.size w wr ∧ s.ownBlock ≠ some w.heap.size ∧ ∀ j, s.ownBlock = some j → r ≠ some j) (fun _ i _ => len - (intOf i).toNat)
  case atStart => exact ⟨0, [], none, rfl, Nat.zero_le _, Nat.zero_le _, HS1.out, ⟨rfl, .inl ⟨rfl, rfl⟩⟩, hb1, by simp [Value.ownBlock], fun j h => by simp⟩
  case round =>
    obtain ⟨k, l, r, rfl, hk, hl, hs, hown, hb, hne1, hne2⟩ := hrel
    have H := hide (And.intro hl (And.intro hs (And.intro hown (And.intro hne1 hne2))))
    clear hl hs hown hne1 hne2
    by_cases hlt : k < len
    · obtain ⟨b, o, ⟨c0, c1, c2⟩, rfl, hbl, hck, hc1, e0, e1, e2⟩ := (HC.out.below hb).at_ hlt
      simp only [] at hc1 e0 e1 e2
      have HC1 := hide hc1
      clear hc1 hck
      obtain ⟨W1, hW1⟩ : ∃ W, W = wr.alloc (.cells #[.int .i64 c0, .int .u64 (c1 : Int), .int .i64 c2] 44) := ⟨_, rfl⟩
      have hbl1 : Below wr.heap.size wr W1 := by rw [hW1]; exact bl_alloc (bl_refl wr) _
      have hsz1 : W1.heap.size = wr.heap.size + 1 := by rw [hW1]; simp
      have hcell : ∀ j v, (callCells (c0, c1, c2))[j]? = some v → W1.cell? ⟨wr.heap.size, j, none⟩ = some v := fun j v hv => by
        rw [hW1, cell_of_row _ _ j _ _ (0, 0) (heap_alloc_new wr _)]
        simpa [callCells] using hv
      go_wp2_with fail
      rw [← hW1]
      refine (write_ref c0 c1 c2 c1 W1 rfl HC1.out).mono ?_
      rintro e w2 ⟨hres, hb2⟩
      obtain ⟨v, rfl, hown2⟩ := hres.row
      have hbits := wCall_length c0 c1 c2 HC1.out
      obtain ⟨o, ho⟩ : ∃ o, o = wCall c0 c1 c2 := ⟨_, rfl⟩
      rw [← ho] at hres hown2 hbits ⊢
      have HOE := hide ho
      have HOK := hide (show cod o = if o.isSome then 0 else 1 from rfl)
      clear ho
      have d0 : w2.cell? ⟨wr.heap.size, 0, none⟩ = some (.int .i64 c0) := by rw [hb2.cell (by show wr.heap.size < _; omega)]; exact hcell 0 _ rfl
      have d1 : w2.cell? ⟨wr.heap.size, 1, none⟩ = some (.int .u64 (c1 : Int)) := by rw [hb2.cell (by show wr.heap.size < _; omega)]; exact hcell 1 _ rfl
      have d2 : w2.cell? ⟨wr.heap.size, 2, none⟩ = some (.int .i64 c2) := by rw [hb2.cell (by show wr.heap.size < _; omega)]; exact hcell 2 _ rfl
      clear hcell
      have hbw2 : Below wr.heap.size wr w2 := bl_trans hbl1 hb2
      obtain ⟨hl, hs, hown, hne1, hne2⟩ := H.out
      have hs2 := hs.below hbw2
      have hown' := own_below hown hbw2
      obtain ⟨bits, hbt⟩ : ∃ bits, bits = o.getD [] := ⟨_, rfl⟩
      rw [← hbt] at hown2 hbits
      have HS2 := hide hs2
      have HO2 := hide (And.intro hown' hown2)
      have hbs2 : w.heap.size ≤ w2.heap.size := Nat.le_trans hb.size hbw2.size
      obtain ⟨ok, hok⟩ : ∃ ok, ok = o.isSome := ⟨_, rfl⟩
      rw [← hok] at HOK ⊢
      clear hres hok hl hs hown hs2 hown' hown2 hne1 hne2 hW1
      go_wp2_with fail
      refine (lwrite_any w.heap.size w.heap.size r l c0 c1 c2 c1 w2 rfl HC1.out HS2.out (by have := H.out.1; omega) hbs2).mono ?_
      rintro e w3 ⟨rfl, hst⟩
      rw [← HOE.out] at hst ⊢
      rw [← hbt] at hst
      rw [HOK.out]
      have hlt2 : ∀ j, v.ownBlock = some j → wr.heap.size ≤ j := fun j hj => by have := (HO2.out.2.lt j hj).1; omega
      have hr2 : ∀ j, r = some j → j < wr.heap.size := fun j hj => (H.out.2.1.lt.2.2 j hj).2
      have hg2 : w.heap.size < wr.heap.size := H.out.2.1.lt.1
      have hown3 := own_step hst HO2.out.1 H.out.2.2.2.1 H.out.2.2.2.2
      have hown3' := own_step hst HO2.out.2 (fun h => by have := hlt2 _ h; omega) (fun j hj h => by have := hlt2 j hj; have := hr2 j h; omega)
      obtain ⟨r3, hs3, hc3, hr3⟩ := hst
      have hbs3 : Below w.heap.size w w3 := (hb.trans (hbw2.mono hb.size)).trans (hc3.below (Nat.le_refl _) (fun k hk => (H.out.2.1.lt.2.2 k hk).1) hbs2)
      have hu4 : ∀ j, u4.ownBlock = some j → j < wr.heap.size := fun j hj => (H.out.2.2.1.lt j hj).2
      have hr4 : ∀ j, r3 = some j → u4.ownBlock ≠ some j := fun j hj h => by
        rcases hr3 with q | ⟨m, q, hm⟩
        · exact H.out.2.2.2.2 j h (by rw [← q, hj])
        · rw [q] at hj; injection hj with hj; have := hu4 j h; have := hbw2.size; omega
      obtain ⟨hx1, A, cv, rfl, hx2, hrd, hx3⟩ := own_form hown3'
      obtain ⟨m, hm⟩ : ∃ m, m = bits.length := ⟨_, rfl⟩
      obtain ⟨n, hn⟩ : ∃ n, n = l.length := ⟨_, rfl⟩
      have hn' : n ≤ 130000 := by rw [hn]; have := H.out.1; omega
      rw [← hm] at hbits ⊢
      rw [← hn] at hown3
      have H3 := hide (And.intro hs3 (And.intro hown3 (And.intro hrd (And.intro hr4 hr3))))
      have HMN := hide (And.intro hm hn)
      have hbsz3 := hbs3.size
      have hne4 := H.out.2.2.2.1
      have HNE := hide hne4
      have HU4 := hide hu4
      have HLL := hide H.out.1
      clear hlt2 hr2 hown3 hown3' hs3 hc3 hr3 hu4 hr4 hx1 hx2 hx3 hrd hm hn hbt HOK HOE HO2 HS2 H hne4 d0 d1 d2 hbw2 hb2 hbl1
      cases ok
      all_goals
        simp only [if_true, if_false, Bool.false_eq_true]
        go_wp2_with (at_builtin; go_loud (refine wpList_append_rd _ rfl (.tmp 42) (.tmp 43) 42 rfl w.heap.size 4 i0 _ 1 1 Try.underlying42 hi0 hz0 hz1 hz2 rfl (by omega) u4 n (l.map Value.bool) rfl H3.out.2.1 A m cv (bits.map Value.bool) rfl (by rw [List.length_map, Nat.mul_one]; exact HMN.out.1.symm) H3.out.2.2.1 (bools_one _) (by simp only [maxLen]; omega) (by omega) hbsz3 ?_); intro v4 w4 hown4 hg4 hat4)
        rw [← List.map_append] at hown4
        have hlt3 := H3.out.1.lt
        have hs4 := H3.out.1.keep (hg4.block _ hlt3.1 (fun e => HNE.out e.symm)) (fun j hj => hg4.block j (hlt3.2.2 j hj).2 (fun e => H3.out.2.2.2.1 j hj e.symm))
        have hne5 : v4.ownBlock ≠ some w.heap.size := by
          rcases hat4 with h | h
          · rw [h]; exact HNE.out
          · rw [h]; intro h; injection h with h; have := hlt3.1; omega
        have hne6 : ∀ j, v4.ownBlock = some j → r3 ≠ some j := fun j hj h => by
          rcases hat4 with q | q
          · exact H3.out.2.2.2.1 j h (by rw [← q, hj])
          · rw [q] at hj; injection hj with hj; have := (hlt3.2.2 j h).2; omega
        have hbs4 : Below w.heap.size w w4 := bl_grown hbs3 hg4 (fun j h => (H3.out.2.1.lt j h).1)
        obtain ⟨hx1, a4, c4, rfl, hx2, hrd4, hx3⟩ := own_form hown4
        obtain ⟨L, hL⟩ : ∃ L, L = l ++ bits := ⟨_, rfl⟩
        rw [← hL] at hs4 hown4 hrd4
        have hLn : L.length = n + m := by rw [hL, List.length_append, HMN.out.1, HMN.out.2]
        have H4 := hide (And.intro hs4 (And.intro hown4 (And.intro hrd4 (And.intro hne5 hne6))))
        have HLN := hide hLn
        clear hx1 hx2 hx3 hs4 hown4 hrd4 hne5 hne6 hlt3 hg4 hat4 hL hLn
        go_wp2_with fail
        refine (wlen_any w.heap.size w.heap.size r3 L w4 H4.out.1 (by rw [HLN.out]; omega)).mono ?_
        rintro e w' ⟨rfl, rfl⟩
        have hci : ((L.length : Nat) : Int) = (n : Int) + (m : Int) := by rw [HLN.out]; omega
        rw [hci]
        clear hci
        go_wp2_with fail
        refine (wbytes_any w.heap.size w.heap.size r3 L w4 H4.out.1 (by rw [HLN.out]; omega) hbs4.size).mono ?_
        rintro e w5 ⟨v5, rfl, hown5, hb5⟩
        obtain ⟨hx1, a5, c5, rfl, hx2, hrd5, hx3⟩ := own_form hown5
        obtain ⟨p5, hp5⟩ : ∃ p, p = (packL L).length := ⟨_, rfl⟩
        rw [← hp5]
        have H5 := hide (And.intro hp5 hrd5)
        clear hx1 hx2 hx3 hown5 hrd5 hp5
        go_wp2_with fail
        refine (pack_ref a4 (n + m) c4 L w5 HLN.out.symm (by omega) (H4.out.2.2.1.below hb5)).mono ?_
        rintro e w6 ⟨v6, rfl, hown6, hb6⟩
        obtain ⟨hx1, a6, c6, rfl, hx2, hrd6, hx3⟩ := own_form hown6
        rw [← H5.out.1]
        have H6 := hide hrd6
        clear hx1 hx2 hx3 hown6 hrd6
        go_wp2_with fail
        refine (same_any a5 a6 p5 c5 p5 c6 (packL L) (packL L) w6 H5.out.1 H5.out.1 (H5.out.2.below hb6) H6.out).mono ?_
        rintro e w' ⟨rfl, rfl⟩
        rw [show (packL L == packL L) = true from beq_self_eq_true _]
        go_wp2_with fail
        go_roundw
        case rel =>
          have hb46 := bl_trans hb5 hb6
          refine ⟨k + 1, L, r3, by go_num, by omega, by rw [HLN.out]; have := HMN.out; have := HLL.out; omega, H4.out.1.below hb46, ?_, bl_trans hbs4 hb46, H4.out.2.2.2.1, H4.out.2.2.2.2⟩
          rw [HLN.out]
          exact own_below H4.out.2.1 hb46
        case measure => simp [intOf]; omega
    · go_wp2_with fail
      refine (awake_any _).mono ?_
      rintro e w6 ⟨rfl, hb6⟩
      go_wp2_with fail
      go_ret
      exact ⟨rfl, bl_trans hb hb6⟩
end bitioWrites
end Go.Proofs.Ytimcbgcjnfdcaaa
