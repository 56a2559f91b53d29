/- The walks of the program's search: strings.Compare, slices.BinarySearchFunc, find. -/
import Derived.Test.YtjpmfiicbokdcaaDpW
namespace Go.Proofs.Ytjpmfiicbokdcaa
open Go.RowKit
set_option linter.unusedVariables false
set_option linter.unusedSimpArgs false
/-! ### Where a name stands in a directory -/
def Srt (l : List Ent) : Prop := l.Pairwise fun e f => nlt e.1 f.1 = true
def posM (l : List Ent) (s : List UInt8) : Nat := (l.takeWhile fun e => nlt e.1 s).length
theorem posM_le (l : List Ent) (s : List UInt8) : posM l s ≤ l.length := (List.takeWhile_sublist _).length_le
theorem posM_of : ∀ {l : List Ent} {s : List UInt8} {i : Nat}, i ≤ l.length → (∀ k e, k < i → l[k]? = some e → nlt e.1 s = true) → (∀ e, l[i]? = some e → nlt e.1 s = false) → posM l s = i
  | [], s, i, hi, _, _ => by simp at hi; subst hi; rfl
  | x :: l, s, 0, _, _, h => by
    unfold posM
    rw [List.takeWhile_cons, h x rfl]
    rfl
  | x :: l, s, i + 1, hi, h1, h2 => by
    have ih := posM_of (l := l) (s := s) (i := i) (by simpa using hi) (fun k e hk he => h1 (k + 1) e (by omega) (by simpa using he)) (fun e he => h2 e (by simpa using he))
    unfold posM at ih ⊢
    rw [List.takeWhile_cons, h1 0 x (by omega) rfl]
    simp [ih]
theorem Srt.lt {l : List Ent} (h : Srt l) {i j : Nat} {e f : Ent} (hij : i < j) (he : l[i]? = some e) (hf : l[j]? = some f) : nlt e.1 f.1 = true := by
  obtain ⟨hi, rfl⟩ := List.getElem?_eq_some_iff.1 he
  obtain ⟨hj, rfl⟩ := List.getElem?_eq_some_iff.1 hf
  exact (List.pairwise_iff_getElem.1 h) i j hi hj hij
theorem Srt.tail {x : Ent} {l : List Ent} (h : Srt (x :: l)) : Srt l := (List.pairwise_cons.1 h).2
/-- In order, a name that stands nowhere before its place and not there stands nowhere. -/
theorem has_pos {l : List Ent} (h : Srt l) (s : List UInt8) {i : Nat} (hi : i ≤ l.length) (h1 : ∀ k e, k < i → l[k]? = some e → nlt e.1 s = true) (h2 : ∀ k e, i ≤ k → l[k]? = some e → nlt e.1 s = false) : hasM l s = true ↔ ∃ x, l[i]? = some (s, x) := by
  unfold hasM
  rw [List.any_eq_true]
  constructor
  · rintro ⟨e, he, hs⟩
    obtain ⟨k, hk, rfl⟩ := List.mem_iff_getElem.1 he
    have hs' : l[k].1 = s := by simpa using hs
    have hek : l[k]? = some l[k] := List.getElem?_eq_getElem hk
    have hik : ¬ k < i := fun hki => by have := h1 k _ hki hek; rw [hs', nlt_irrefl] at this; cases this
    by_cases hki : k = i
    · subst hki
      exact ⟨l[k].2, by rw [hek]; congr 1; exact Prod.ext hs' rfl⟩
    · have hil : i < l.length := by omega
      have hei : l[i]? = some l[i] := List.getElem?_eq_getElem hil
      have := h.lt (show i < k by omega) hei hek
      rw [hs'] at this
      have h3 := h2 i _ (Nat.le_refl _) hei
      rw [this] at h3; cases h3
  · rintro ⟨x, hx⟩
    exact ⟨(s, x), List.mem_of_getElem? hx, by simp⟩
set_option maxRecDepth 100000 in
theorem cmpString_any (a b : List UInt8) (w : World) :
    Calls Try.prog 94 #[.string (bstr a), .string (bstr b)] w fun e w' => e = .returned (.int .i64 (Lib.compareBytes a b)) ∧ w = w' := by
  go_enter Try.func94, Try.ntmps94
  go_wp2_with fail
  rw [run_callFunc_extern Try.func100 (by kernel_rfl) (by kernel_rfl) (by kernel_rfl) (e := Extern.BytealgCompare.compare) (by kernel_rfl), Lib.run_compareString]
  simp only [Result.andThen]
  rw [Oper.upon_value]
  go_wp2
  go_ret
  exact ⟨rfl, rfl⟩
set_option maxRecDepth 100000 in
theorem compare_any (a b : List UInt8) (w : World) :
    Calls Try.prog 82 #[.string (bstr a), .string (bstr b)] w fun e w' => e = .returned (.int .i64 (Lib.compareBytes a b)) ∧ w = w' := by
  go_enter Try.func82, Try.ntmps82
  go_wp2_with fail
  refine (cmpString_any a b w).mono ?_
  rintro e w' ⟨rfl, rfl⟩
  go_wp2
  go_ret
  exact ⟨rfl, rfl⟩
set_option maxRecDepth 100000 in
theorem find1_any (e : Ent) (s : List UInt8) (w : World) :
    Calls Try.prog 81 #[eV e, .string (bstr s)] w fun r w' => r = .returned (.int .i64 (Lib.compareBytes e.1 s)) ∧ Below w.heap.size w w' := by
  obtain ⟨t, x⟩ := e
  unfold eV
  simp only []
  go_enter Try.func81, Try.ntmps81
  go_wp2_with fail
  refine (compare_any t s _).mono ?_
  rintro e w' ⟨rfl, rfl⟩
  go_wp2
  go_ret
  exact ⟨rfl, bl_alloc (bl_refl w) _⟩
set_option maxHeartbeats 4000000 in
set_option maxRecDepth 100000 in
theorem bsearch_any (a : Option Addr) (n c : Nat) (l : List Ent) (s : List UInt8) (w : World) (h : RE w a n l) (hn : n ≤ 1000000) (hs : Srt l) :
    Calls Try.prog 80 #[.slice a n c, .string (bstr s), .func (.func 81) #[] #[]] w fun e w' => e = .returned (.tuple #[.int .i64 ((posM l s : Nat) : Int), .bool (hasM l s)]) ∧ Below w.heap.size w w' := by
  have HL := hide h
  have HN := hide h.1
  have HS := hide hs
  obtain ⟨pv, hpv⟩ : ∃ pv, pv = posM l s := ⟨_, rfl⟩
  obtain ⟨hv, hhv⟩ : ∃ hv, hv = hasM l s := ⟨_, rfl⟩
  have HPV := hide hpv
  have HHV := hide hhv
  rw [← hpv, ← hhv]
  clear h hs hpv hhv
  go_enter Try.func80, Try.ntmps80
  go_wp2_with fail
  go_loopw [9, 10] (fun iv jv wr => ∃ (i j : Nat), iv = .int .i64 (i : Int) ∧ jv = .int .i64 (j : Int) ∧ i ≤ j ∧ j ≤ n ∧ Hid (∀ k e, k < i → l[k]? = some e → nlt e.1 s = true) ∧ Hid (∀ k e, j ≤ k → l[k]? = some e → nlt e.1 s = false) ∧ Hid (Below w.heap.size w wr)) (fun iv jv _ => (intOf jv).toNat - (intOf iv).toNat)
  case atStart => exact ⟨0, n, rfl, rfl, by omega, by omega, hide (fun k e hk => absurd hk (Nat.not_lt_zero _)), hide (fun k e hk he => absurd (List.getElem?_eq_some_iff.1 he).1 (by rw [← HN.out]; omega)), hide (bl_refl w)⟩
  case round =>
    obtain ⟨i, j, rfl, rfl, hij, hjn, HLO, HHI, HB⟩ := hrel
    by_cases hlt : i < j
    · have hin : (i : Int) < (j : Int) := by omega
      have hh0 : i ≤ (i + j) / 2 ∧ (i + j) / 2 < j := by omega
      obtain ⟨b, o, t, x, rfl, hbl, hx, e0, e1⟩ := (HL.out.below HB.out).at_ (k := (i + j) / 2) (by omega)
      have HX := hide hx
      have hb2 : (i + j) / 2 < n := by omega
      clear hx hbl
      go_wp2_with fail
      refine (find1_any (t, x) s wr).mono ?_
      rintro e w2 ⟨rfl, hb⟩
      have HB2 := hide (HB.out.trans (hb.mono HB.out.size))
      have hc := cmp_nlt t s
      simp only []
      clear hb e0 e1
      cases hl : nlt t s with
      | true =>
        rw [hl, if_pos rfl] at hc
        rw [hc]
        have HHL := hide hl
        clear hc hl
        go_wp2
        go_roundw
        case rel =>
          refine ⟨(i + j) / 2 + 1, j, by go_num, rfl, by omega, by omega, hide (fun k e hk he => ?_), HHI, HB2⟩
          by_cases hk2 : k = (i + j) / 2
          · subst hk2
            rw [HX.out] at he
            injection he with he
            rw [← he]; exact HHL.out
          · exact nlt_trans (HS.out.lt (show k < (i + j) / 2 by omega) he HX.out) HHL.out
        case measure => simp [intOf]; omega
      | false =>
        rw [hl, if_neg (by decide)] at hc
        obtain ⟨cv, hcv⟩ : ∃ cv, cv = Lib.compareBytes t s := ⟨_, rfl⟩
        have hc0 : ¬ cv < 0 := by rw [hcv, hc]; split <;> decide
        rw [← hcv]
        have HHL := hide hl
        clear hc hl hcv
        go_wp2
        go_roundw
        case rel =>
          refine ⟨i, (i + j) / 2, rfl, by go_num, by omega, by omega, HLO, hide (fun k e hk he => ?_), HB2⟩
          by_cases hk2 : k = (i + j) / 2
          · subst hk2
            rw [HX.out] at he
            injection he with he
            rw [← he]; exact HHL.out
          · have h3 := HS.out.lt (show (i + j) / 2 < k by omega) HX.out he
            rcases h4 : nlt e.1 s with _ | _
            · rfl
            · have := nlt_trans h3 h4
              rw [HHL.out] at this; cases this
        case measure => simp [intOf]; omega
    · obtain rfl : i = j := by omega
      have hin : ¬ (i : Int) < (i : Int) := by omega
      have hpos : posM l s = i := posM_of (by rw [← HN.out]; exact hjn) HLO.out (fun e he => HHI.out i e (Nat.le_refl _) he)
      have hhas := has_pos HS.out s (by rw [← HN.out]; exact hjn) HLO.out HHI.out
      obtain rfl : i = pv := by rw [HPV.out, hpos]
      have HHA := hide hhas
      clear hpos hhas
      by_cases hin2 : i < n
      · obtain ⟨b, o, t, x, rfl, hbl, hx, e0, e1⟩ := (HL.out.below HB.out).at_ (k := i) hin2
        have hii : (i : Int) < (n : Int) := by omega
        have HX := hide hx
        clear hx hbl
        go_wp2_with fail
        refine (find1_any (t, x) s wr).mono ?_
        rintro e w2 ⟨rfl, hb⟩
        have HB2 := hide (HB.out.trans (hb.mono HB.out.size))
        have hc := cmp_nlt t s
        rw [HHI.out i _ (Nat.le_refl _) HX.out, if_neg (by decide)] at hc
        simp only []
        clear hb e0 e1
        by_cases hts : t = s
        · subst hts
          rw [if_pos rfl] at hc
          rw [hc]
          obtain rfl : hv = true := by rw [HHV.out]; exact HHA.out.2 ⟨x, HX.out⟩
          clear hc
          go_wp2
          go_ret2
          exact ⟨rfl, HB2.out⟩
        · rw [if_neg hts] at hc
          rw [hc]
          obtain rfl : hv = false := by
            rw [HHV.out]
            rcases hq : hasM l s with _ | _
            · rfl
            · obtain ⟨y, hy⟩ := HHA.out.1 hq
              rw [HX.out] at hy
              injection hy with hy
              injection hy with hy
              exact absurd hy hts
          clear hc
          go_wp2
          go_ret2
          exact ⟨rfl, HB2.out⟩
      · have hii : ¬ (i : Int) < (n : Int) := by omega
        obtain rfl : hv = false := by
          rw [HHV.out]
          rcases hq : hasM l s with _ | _
          · rfl
          · obtain ⟨y, hy⟩ := HHA.out.1 hq
            have := (List.getElem?_eq_some_iff.1 hy).1
            rw [← HN.out] at this
            omega
        go_wp2
        go_ret2
        exact ⟨rfl, HB.out⟩
set_option maxRecDepth 100000 in
theorem find_any (a : Option Addr) (n c : Nat) (l : List Ent) (s : List UInt8) (w : World) (h : RE w a n l) (hn : n ≤ 1000000) (hs : Srt l) :
    Calls Try.prog 58 #[.slice a n c, .string (bstr s)] w fun e w' => e = .returned (.tuple #[.int .i64 ((posM l s : Nat) : Int), .bool (hasM l s)]) ∧ Below w.heap.size w w' := by
  have HL := hide h
  obtain ⟨hv, hhv⟩ : ∃ hv, hv = hasM l s := ⟨_, rfl⟩
  have HB := hide (bsearch_any a n c l s w h hn hs)
  rw [← hhv] at HB ⊢
  clear h hs hhv
  go_enter Try.func58, Try.ntmps58
  go_wp2_with fail
  refine HB.out.mono ?_
  rintro e w2 ⟨rfl, hb⟩
  go_wp2
  go_ret2
  exact ⟨rfl, hb⟩
end Go.Proofs.Ytjpmfiicbokdcaa
