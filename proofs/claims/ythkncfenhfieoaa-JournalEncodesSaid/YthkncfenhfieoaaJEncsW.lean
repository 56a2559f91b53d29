/- A slice of records that came in, opened; the walk of the law JournalEncodes. -/
import Derived.Test.YthkncfenhfieoaaJLaw2W
import Derived.Test.YthkncfenhfieoaaOpen
import Derived.ChangeMaps5
namespace Go.Proofs.Ythkncfenhfieoaa
open Go.Joins Go.ChangeShapes Go.WideShapes Go.RowKit Go.Deep
set_option linter.unusedVariables false
set_option linter.unusedSimpArgs false
theorem list_of {α : Type} {Pr : Nat → α → Prop} (n : Nat) (h : ∀ i, i < n → ∃ c, Pr i c) : ∃ cs : List α, cs.length = n ∧ ∀ i c, cs[i]? = some c → Pr i c := by
  induction n with
  | zero => exact ⟨[], rfl, fun i c h => by simp at h⟩
  | succ n ih =>
    obtain ⟨cs, hl, hc⟩ := ih (fun i hi => h i (by omega))
    obtain ⟨c, hc'⟩ := h n (by omega)
    refine ⟨cs ++ [c], by simp [hl], fun i d hd => ?_⟩
    rcases Nat.lt_or_ge i n with hi | hi
    · rw [List.getElem?_append_left (by omega)] at hd
      exact hc i d hd
    · have hlt := (List.getElem?_eq_some_iff.1 hd).1
      simp [hl] at hlt
      obtain rfl : i = n := by omega
      rw [List.getElem?_append_right (by omega), hl, Nat.sub_self] at hd
      simp at hd
      subst hd
      exact hc'
theorem recs_cells (cs : List Rec) (j : Nat) (v : Value) (h : (cs.flatMap recC)[j]? = some v) : ∃ c, cs[j / 2]? = some c ∧ (recC c)[j % 2]? = some v := by
  induction cs generalizing j with
  | nil => simp at h
  | cons d cs ih =>
    rw [List.flatMap_cons] at h
    rcases Nat.lt_or_ge j 2 with hj | hj
    · rw [List.getElem?_append_left (by simpa [recC] using hj)] at h
      refine ⟨d, by rw [Nat.div_eq_of_lt hj]; rfl, by rw [Nat.mod_eq_of_lt hj]; exact h⟩
    · rw [List.getElem?_append_right (by simpa [recC] using hj)] at h
      obtain ⟨c, h1, h2⟩ := ih _ h
      have e : (recC d).length = 2 := rfl
      rw [e] at h1 h2
      refine ⟨c, ?_, ?_⟩
      · rw [show j / 2 = (j - 2) / 2 + 1 by omega]; simpa using h1
      · rw [show j % 2 = (j - 2) % 2 by omega]; exact h2
theorem recs_open {H : Type} {enc : TypeId × Value → H} {w : World} {base : Nat} {spare : Nat → Bool} {held : Bool} {fuel : Nat} {a : Option Addr} {len cap : Nat} {x : DataW H × List MemPlace}
    (h : DataW.trod enc Try.prog w base spare held fuel 26 [.slice a len cap] = some x) : ∃ cs, IsRecs w a len cs := by
  rcases open_slice_fields Try.underlying26 Try.underlying37 (by kernel_rfl) (by kernel_rfl) h with ⟨hcs, _⟩ | ⟨ad, l, c, m, D, Pl, hcs, _, hl, hm, hmm, hx, hi⟩
  · simp at hcs
    obtain ⟨rfl, rfl, rfl⟩ := hcs
    exact ⟨[], rfl, .inl rfl⟩
  · simp at hcs
    obtain ⟨rfl, rfl, rfl⟩ := hcs
    have hlm : len ≤ m := by rw [hmm]; split <;> omega
    obtain ⟨cs, hlen, hc⟩ := list_of (α := Rec) (Pr := fun i c => ∀ j v, (recC c)[j]? = some v → w.cell? (ad.add (i * 2 + j)) = some v) len (fun i hilt => by
      obtain ⟨ys, n, _, _, hyl, hf⟩ := hi i (by omega)
      obtain ⟨v0, y0, g0, _, e0⟩ := hf 0 _ rfl
      obtain ⟨v1, y1, g1, _, e1⟩ := hf 1 _ rfl
      obtain ⟨n0, q0, _, b0⟩ := DataW.trod_int Try.underlying3 e0
      obtain ⟨s1, q1, _, _⟩ := DataW.trod_string Try.underlying9 e1
      obtain rfl : v0 = .int .i64 n0 := by simpa using q0
      obtain rfl : v1 = .string s1 := by simpa using q1
      obtain ⟨p1, hp1⟩ := str_ex s1
      refine ⟨(n0, p1), fun j v hv => ?_⟩
      match j, hv with
      | 0, hv => simp [recC] at hv; subst hv; exact g0
      | 1, hv => simp [recC] at hv; subst hv; rw [← hp1]; exact g1
      | j + 2, hv => simp [recC] at hv)
    refine ⟨cs, hlen.symm, ?_⟩
    by_cases h0 : len = 0
    · left
      have : cs = [] := List.eq_nil_of_length_eq_zero (by omega)
      rw [this]; rfl
    · right
      have hcell : ∀ k v, (cs.flatMap recC)[k]? = some v → w.cell? (ad.add k) = some v := fun k v hv => by
        obtain ⟨c, h1, h2⟩ := recs_cells cs k v hv
        have := hc _ c h1 _ v h2
        rwa [show k / 2 * 2 + k % 2 = k by omega] at this
      have hc0 : cs[0]? = some (cs[0]'(by omega)) := List.getElem?_eq_getElem _
      have hx0 := hc 0 _ hc0 0 _ rfl
      have hsp : ad.spot = none := by simpa [Addr.add] using World.cell?_spot hx0
      obtain ⟨b, o, sp⟩ := ad
      subst hsp
      refine ⟨b, o, rfl, lt_heap (a := (⟨b, o, none⟩ : Addr).add (0 * 2 + 0)) hx0, fun k v hv => ?_⟩
      have h1 := hcell k v hv
      rw [Addr.add_lit] at h1
      exact h1
namespace journalEncodes
set_option maxHeartbeats 2000000 in
set_option maxRecDepth 100000 in
theorem walk (a : Option Addr) (len cap : Nat) (z : List Int) (b : Option Addr) (rn rc : Nat) (raw : List Rec) (w : World) (w0 : IsRow .i64 w a len cap z) (w1 : IsRecs w b rn raw) :
    Calls Try.prog 6 #[.slice a len cap, .slice b rn rc] w fun e w' => e = .returned (.bool true) ∧ Below w.heap.size w w' := by
  obtain ⟨zs, hl, hr, hc, hm, _, _⟩ := w0.ints
  have HL := hide hl.symm
  have HR := hide hr
  have HRAW := hide w1
  have HRN := hide w1.1
  obtain ⟨i0, hi0, hz0, hz1, hz2⟩ := info_parts info_rec2
  clear hl hr w0 w1
  go_enter Try.func6, Try.ntmps6
  by_cases h6 : 6 < rn
  · have h6' : (6 : Int) < (rn : Int) := by omega
    go_wp2
    go_ret
    exact ⟨rfl, bl_refl w⟩
  have h6' : ¬ (6 : Int) < (rn : Int) := by omega
  go_wp2_with fail
  go_loopw [23] (fun i wr => ∃ k : Nat, i = .int .i64 (k : Int) ∧ k ≤ rn ∧ Hid (∀ r ∈ raw.take k, r.2.length ≤ 200) ∧ Below w.heap.size w wr) (fun i _ => rn - (intOf i).toNat)
  case atStart => exact ⟨0, rfl, Nat.zero_le _, hide (fun r h => by simp at h), bl_refl w⟩
  case round =>
    obtain ⟨k, rfl, hk, HK, hb⟩ := hrel
    by_cases hlt : k < rn
    · obtain ⟨b1, o1, ⟨k1, p1⟩, rfl, hl1, hg1, e0, e1⟩ := (HRAW.out.below hb).at_ hlt
      simp only [] at e0 e1
      have HG1 := hide hg1
      obtain ⟨SP, hSP⟩ : ∃ SP, SP = bstr p1 := ⟨_, rfl⟩
      rw [← hSP] at e1
      obtain ⟨pl, hpl⟩ : ∃ pl, pl = p1.length := ⟨_, rfl⟩
      have hSPs : SP.size = pl := by rw [hpl]; exact str_size hSP
      have HPL := hide hpl
      have hkr : (k : Int) < (rn : Int) := by omega
      clear hg1 hSP hpl
      by_cases h2 : 200 < pl
      · have h2' : (200 : Int) < (pl : Int) := by omega
        go_wp2
        go_ret
        exact ⟨rfl, hb.trans ((bl_alloc (bl_refl wr) _).mono hb.size)⟩
      · have h2' : ¬ (200 : Int) < (pl : Int) := by omega
        go_wp2
        go_roundw
        case rel =>
          refine ⟨k + 1, by go_num, by omega, hide fun r hr => ?_, hb.trans ((bl_alloc (bl_refl wr) _).mono hb.size)⟩
          rw [take_snoc raw k _ HG1.out] at hr
          rcases List.mem_append.1 hr with h | h
          · exact HK.out r h
          · simp at h; subst h
            show p1.length ≤ 200
            rw [← HPL.out]; omega
        case measure => simp [intOf]; omega
    · obtain rfl : k = rn := by omega
      have hraw : ∀ r ∈ raw, r.2.length ≤ 200 := by
        have := HK.out
        rwa [List.take_of_length_le (by rw [← HRN.out]; exact Nat.le_refl _)] at this
      have HPR := hide hraw
      clear hraw hlt
      go_wp2_with fail
      refine (tnew_any a len cap zs wr HL.out hc hm (HR.out.below hb)).mono ?_
      rintro e w2 ⟨rfl, ht2, hb2⟩
      go_wp2_with fail
      refine (lrec_any wr.heap.size 4 4 w2 rfl (by decide) ht2).mono ?_
      rintro e w3 ⟨v, l, rfl, hown, hsm, hll, hg⟩
      have hbr3 : Below wr.heap.size wr w3 := bl_grown hb2 hg (fun j h => by cases h; exact Nat.le_refl _)
      have hb3 := bl_trans hb hbr3
      have HOWN := hide hown
      have HSM := hide hsm
      have HRAW3 := hide (HRAW.out.below hb3)
      have hbase := hb2.size
      have hww := hb.size
      have one2 : ∀ l : List Rec, ∀ u ∈ l.flatMap recC, u.oneCell' = true := fun l u hu => by
        obtain ⟨r, _, hr⟩ := List.mem_flatMap.1 hu
        simp [recC] at hr
        rcases hr with rfl | rfl <;> rfl
      have hsz23 := hg.size
      clear hown hsm ht2 hg hbr3 hb hb2
      go_wp2_with (at_builtin; (refine wpList_append_rd _ rfl (.tmp 34) (.tmp 35) 26 rfl w2.heap.size 37 i0 _ 2 24 Try.underlying26 hi0 hz0 hz1 hz2 rfl (by omega) v l.length (l.flatMap recC) rfl HOWN.out b k rc (raw.flatMap recC) rfl (by rw [recs_length, HRN.out]) HRAW3.out.2 (one2 raw) (by simp only [maxLen]; omega) (by omega) (by omega) ?_); intro v4 w4 hown4 hg4 hat4)
      have hb34 : Below w.heap.size w w4 := bl_grown hb3 hg4 (fun j h => by have := (HOWN.out.lt j h).1; omega)
      have hown5 : w4.ownsRow w2.heap.size 37 2 v4 (l ++ raw).length ((l ++ raw).flatMap recC) := by
        rw [List.flatMap_append, List.length_append, ← HRN.out]
        exact hown4
      obtain ⟨a5, c5, rfl, hc5, hrec5⟩ := own_recs hown5 rfl
      obtain ⟨x, hx⟩ : ∃ x, x = l ++ raw := ⟨_, rfl⟩
      rw [← hx] at hc5 hrec5 ⊢
      have hxp : ∀ r ∈ x, r.2.length ≤ 1000 := fun r hr => by
        rw [hx] at hr
        rcases List.mem_append.1 hr with h | h
        · have := (HSM.out r h).2; omega
        · have := HPR.out r h; omega
      obtain ⟨xl, hxl⟩ : ∃ xl, xl = x.length := ⟨_, rfl⟩
      have hxl10 : xl ≤ 10 := by rw [hxl, hx, List.length_append, ← HRN.out]; omega
      have HX := hide (show IsRecs w4 a5 xl x by rw [hxl]; exact hrec5)
      have HXP := hide hxp
      rw [← hxl] at hc5 ⊢
      clear hown4 hown5 hrec5 hxp hx hxl hat4 hg4 hsz23 hbase hb3
      go_wp2_with fail
      refine (ea_any a5 xl c5 x w4 HX.out HXP.out (by omega)).mono ?_
      rintro e w5 ⟨rfl, hb5⟩
      obtain ⟨T, hT⟩ : ∃ T, T = bstr (allO x) := ⟨_, rfl⟩
      obtain ⟨ee, hee⟩ : ∃ ee, ee = allE x := ⟨_, rfl⟩
      have hall : allV x = .returned (.tuple #[.string T, .int .i64 (ee : Int)]) := by unfold allV; rw [hT, hee]
      have HALL := hide hall
      rw [hall]
      clear hT hee hall
      go_wp2_with fail
      refine (rea_any a5 xl c5 x w5 (HX.out.below hb5) HXP.out (by omega)).mono ?_
      rintro e w6 ⟨rfl, hb6⟩
      rw [HALL.out]
      have hb46 := bl_trans hb5 hb6
      have hb06 := bl_trans hb34 hb46
      have HX6 := hide (HX.out.below hb46)
      clear hb5 hb6 hb46
      go_wp2_with fail
      go_loopw [57] (fun i wr => ∃ q : Nat, i = .int .i64 (q : Int) ∧ q ≤ xl ∧ Below w6.heap.size w6 wr) (fun i _ => xl - (intOf i).toNat)
      case atStart => exact ⟨0, rfl, Nat.zero_le _, bl_refl w6⟩
      case round =>
        obtain ⟨q, rfl, hq, hbq⟩ := hrel
        by_cases hlq : q < xl
        · obtain ⟨b1, o1, ⟨k1, p1⟩, rfl, hl1, hg1, e0, e1⟩ := (HX6.out.below hbq).at_ hlq
          simp only [] at e0 e1
          have hpl : p1.length ≤ 1000 := HXP.out _ (List.mem_of_getElem? hg1)
          have HPL := hide hpl
          obtain ⟨SP, hSP⟩ : ∃ SP, SP = bstr p1 := ⟨_, rfl⟩
          rw [← hSP] at e1
          have HSP := hide hSP
          have hqx : (q : Int) < (xl : Int) := by omega
          obtain ⟨U, hU⟩ : ∃ U, U = bstr (encO (k1, p1)) := ⟨_, rfl⟩
          obtain ⟨uu, huu⟩ : ∃ uu, uu = encE (k1, p1) := ⟨_, rfl⟩
          have hev : encV (k1, p1) = .returned (.tuple #[.string U, .int .i64 (uu : Int)]) := by unfold encV; rw [hU, huu]
          have HEV := hide hev
          clear hg1 hSP hU huu hev hpl
          go_wp2_with fail
          refine (enc_any k1 SP p1 _ HSP.out (by have := HPL.out; omega)).mono ?_
          rintro e w7 ⟨rfl, hb7⟩
          rw [HEV.out]
          have d0 : w7.cell? ⟨wr.heap.size, 0, none⟩ = some (.int .i64 k1) := (hb7.cell (by simp)).trans (cell_of_row _ _ 0 _ _ (0, 0) (heap_alloc_new wr _))
          have d1 : w7.cell? ⟨wr.heap.size, 1, none⟩ = some (.string SP) := (hb7.cell (by simp)).trans (cell_of_row _ _ 1 _ _ (0, 0) (heap_alloc_new wr _))
          have hbr7 := bl_trans (bl_alloc (bl_refl wr) _) hb7
          clear hb7
          go_wp2_with fail
          refine (renc_any k1 SP p1 _ HSP.out (by have := HPL.out; omega)).mono ?_
          rintro e w8 ⟨rfl, hb8⟩
          rw [HEV.out]
          have hbr8 := bl_trans hbr7 hb8
          go_wp2
          go_roundw
          case rel => exact ⟨q + 1, by go_num, by omega, hbq.trans (hbr8.mono hbq.size)⟩
          case measure => simp [intOf]; omega
        · obtain rfl : q = xl := by omega
          clear hlq
          go_wp2_with fail
          refine (known_any _).mono ?_
          rintro e w9 ⟨rfl, hb9⟩
          go_wp2
          go_ret
          exact ⟨rfl, bl_trans hb06 (bl_trans hbq hb9)⟩
end journalEncodes
end Go.Proofs.Ythkncfenhfieoaa
