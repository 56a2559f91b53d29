/- The walks of the checks of a block, of the number of bytes of a number, and of the cost. -/
import Derived.Test.YtchcaidcohgjbaaKM
import Derived.Test.YtchcaidcohgjbaaKeep
import Derived.Test.YtchcaidcohgjbaaRegF
namespace Go.Proofs.Ytchcaidcohgjbaa
open Go.RowKit
set_option linter.unusedVariables false
set_option linter.unusedSimpArgs false
def iv (x : Int) : Value := .int .i64 x
def nv (x : Nat) : Value := .int .i64 (x : Int)
/-- A slice of ints, read. -/
def IsI (w : World) (a : Option Addr) (n : Nat) (l : List Int) : Prop := n = l.length ∧ Rd w a (l.map iv)
theorem IsI.below {w w' : World} {a : Option Addr} {n : Nat} {l : List Int} (h : IsI w a n l) (hb : Below w.heap.size w w') : IsI w' a n l := ⟨h.1, h.2.below hb⟩
theorem IsI.at_ {w : World} {a : Option Addr} {n : Nat} {l : List Int} (h : IsI w a n l) {k : Nat} (hk : k < n) :
    ∃ b o x, a = some ⟨b, o, none⟩ ∧ b < w.heap.size ∧ l[k]? = some x ∧ w.cell? ⟨b, o + k, none⟩ = some (.int .i64 x) := by
  have hc : l[k]? = some (l[k]'(by have := h.1; omega)) := List.getElem?_eq_getElem _
  obtain ⟨b, o, ha, hb, e⟩ := h.2.at_ (k := k) (v := iv _) (by rw [List.getElem?_map, hc]; rfl)
  exact ⟨b, o, _, ha, hb, hc, e⟩
/-- A slice of numbers, read. -/
def IsV (w : World) (a : Option Addr) (n : Nat) (l : List Nat) : Prop := n = l.length ∧ Rd w a (l.map nv)
theorem IsV.below {w w' : World} {a : Option Addr} {n : Nat} {l : List Nat} (h : IsV w a n l) (hb : Below w.heap.size w w') : IsV w' a n l := ⟨h.1, h.2.below hb⟩
theorem IsV.at_ {w : World} {a : Option Addr} {n : Nat} {l : List Nat} (h : IsV w a n l) {k : Nat} (hk : k < n) :
    ∃ b o x, a = some ⟨b, o, none⟩ ∧ b < w.heap.size ∧ l[k]? = some x ∧ w.cell? ⟨b, o + k, none⟩ = some (.int .i64 (x : Int)) := by
  have hc : l[k]? = some (l[k]'(by have := h.1; omega)) := List.getElem?_eq_getElem _
  obtain ⟨b, o, ha, hb, e⟩ := h.2.at_ (k := k) (v := nv _) (by rw [List.getElem?_map, hc]; rfl)
  exact ⟨b, o, _, ha, hb, hc, e⟩
theorem IsI.isV {w : World} {a : Option Addr} {n : Nat} {vs : List Nat} (h : IsI w a n (vs.map Int.ofNat)) : IsV w a n vs := by
  refine ⟨by simpa using h.1, ?_⟩
  have := h.2
  rw [List.map_map] at this
  exact this
theorem IsV.isI {w : World} {a : Option Addr} {n : Nat} {vs : List Nat} (h : IsV w a n vs) : IsI w a n (vs.map Int.ofNat) := by
  refine ⟨by simpa using h.1, ?_⟩
  rw [List.map_map]
  exact h.2
theorem drop_at {α : Type} {l : List α} {k : Nat} {x : α} (h : l[k]? = some x) : l.drop k = x :: l.drop (k + 1) := by
  obtain ⟨h1, h2⟩ := List.getElem?_eq_some_iff.1 h
  rw [← h2, List.drop_eq_getElem_cons h1]
theorem take_at {α : Type} {l : List α} {k : Nat} {x : α} (h : l[k]? = some x) : l.take (k + 1) = l.take k ++ [x] := by
  rw [List.take_add_one, h]; rfl
theorem rngC_cons (x : Int) (l : List Int) : rngC (x :: l) = if x < 0 ∨ 2147483647 < x then 8 else rngC l := rfl
set_option maxHeartbeats 1000000 in
set_option maxRecDepth 100000 in
theorem check_any (a : Option Addr) (n cap : Nat) (l : List Int) (w : World) (h : IsI w a n l) :
    Calls Try.prog 22 #[.slice a n cap] w fun e w' => e = .returned (.int .i64 ((chkV l : Nat) : Int)) ∧ w = w' := by
  have HI := hide h
  have HN := hide h.1
  clear h
  by_cases h4 : 128 < n
  · have h4' : (128 : Int) < (n : Int) := by omega
    have hr : chkV l = 2 := by unfold chkV; rw [if_pos (by rw [← HN.out]; exact h4)]
    rw [hr]
    clear hr
    go_enter Try.func22, Try.ntmps22
    go_wp2
    go_ret
    exact ⟨rfl, rfl⟩
  have h4' : ¬ (128 : Int) < (n : Int) := by omega
  have hr : chkV l = rngC l := by unfold chkV; rw [if_neg (by rw [← HN.out]; exact h4)]
  have HRR := hide hr
  clear hr h4
  go_enter Try.func22, Try.ntmps22
  go_wp2_with fail
  go_loopw [10] (fun i wr => ∃ k : Nat, i = .int .i64 (k : Int) ∧ k ≤ n ∧ Hid (chkV l = rngC (l.drop k)) ∧ w = wr) (fun i _ => n - (intOf i).toNat)
  case atStart => exact ⟨0, rfl, Nat.zero_le _, hide (by rw [HRR.out]; rfl), rfl⟩
  case round =>
    obtain ⟨k, rfl, hk, HC, rfl⟩ := hrel
    by_cases hlt : k < n
    · obtain ⟨b, o, x, rfl, hbl, hx, e0⟩ := HI.out.at_ hlt
      have hkn : (k : Int) < (n : Int) := by omega
      have hd := drop_at hx
      have HX := hide hx
      have HD := hide hd
      clear hx hd hlt
      by_cases h1 : x < 0
      · have hr : chkV l = 8 := by rw [HC.out, HD.out]; rw [rngC_cons, if_pos (.inl h1)]
        have HR := hide hr
        clear hr
        go_wp2
        go_ret
        exact ⟨by rw [HR.out]; rfl, rfl⟩
      by_cases h2 : 2147483647 < x
      · have hr : chkV l = 8 := by rw [HC.out, HD.out]; rw [rngC_cons, if_pos (.inr h2)]
        have HR := hide hr
        clear hr
        go_wp2
        go_ret
        exact ⟨by rw [HR.out]; rfl, rfl⟩
      go_wp2
      go_roundw
      case rel => exact ⟨k + 1, by go_num, by omega, hide (by rw [HC.out, HD.out]; rw [rngC_cons, if_neg (by omega)]), trivial⟩
      case measure => simp [intOf]; omega
    · obtain rfl : k = n := by omega
      have hr : chkV l = 0 := by rw [HC.out, List.drop_eq_nil_of_le (by rw [← HN.out]; exact Nat.le_refl _)]; rfl
      have HR := hide hr
      clear hr
      go_wp2
      go_ret
      exact ⟨by rw [HR.out]; rfl, rfl⟩
set_option maxHeartbeats 1000000 in
set_option maxRecDepth 100000 in
theorem rcheck_any (a : Option Addr) (n cap : Nat) (l : List Int) (w : World) (h : IsI w a n l) :
    Calls Try.prog 10 #[.slice a n cap] w fun e w' => e = .returned (.int .i64 ((chkV l : Nat) : Int)) ∧ w = w' := by
  have HI := hide h
  have HN := hide h.1
  clear h
  by_cases h4 : 128 < n
  · have h4' : (128 : Int) < (n : Int) := by omega
    have hr : chkV l = 2 := by unfold chkV; rw [if_pos (by rw [← HN.out]; exact h4)]
    rw [hr]
    clear hr
    go_enter Try.func10, Try.ntmps10
    go_wp2
    go_ret
    exact ⟨rfl, rfl⟩
  have h4' : ¬ (128 : Int) < (n : Int) := by omega
  have hr : chkV l = rngC l := by unfold chkV; rw [if_neg (by rw [← HN.out]; exact h4)]
  have HRR := hide hr
  clear hr h4
  go_enter Try.func10, Try.ntmps10
  go_wp2_with fail
  go_loopw [10] (fun i wr => ∃ k : Nat, i = .int .i64 (k : Int) ∧ k ≤ n ∧ Hid (chkV l = rngC (l.drop k)) ∧ w = wr) (fun i _ => n - (intOf i).toNat)
  case atStart => exact ⟨0, rfl, Nat.zero_le _, hide (by rw [HRR.out]; rfl), rfl⟩
  case round =>
    obtain ⟨k, rfl, hk, HC, rfl⟩ := hrel
    by_cases hlt : k < n
    · obtain ⟨b, o, x, rfl, hbl, hx, e0⟩ := HI.out.at_ hlt
      have hkn : (k : Int) < (n : Int) := by omega
      have hd := drop_at hx
      have HX := hide hx
      have HD := hide hd
      clear hx hd hlt
      by_cases h1 : x < 0
      · have hr : chkV l = 8 := by rw [HC.out, HD.out]; rw [rngC_cons, if_pos (.inl h1)]
        have HR := hide hr
        clear hr
        go_wp2
        go_ret
        exact ⟨by rw [HR.out]; rfl, rfl⟩
      by_cases h2 : 2147483647 < x
      · have hr : chkV l = 8 := by rw [HC.out, HD.out]; rw [rngC_cons, if_pos (.inr h2)]
        have HR := hide hr
        clear hr
        go_wp2
        go_ret
        exact ⟨by rw [HR.out]; rfl, rfl⟩
      go_wp2
      go_roundw
      case rel => exact ⟨k + 1, by go_num, by omega, hide (by rw [HC.out, HD.out]; rw [rngC_cons, if_neg (by omega)]), trivial⟩
      case measure => simp [intOf]; omega
    · obtain rfl : k = n := by omega
      have hr : chkV l = 0 := by rw [HC.out, List.drop_eq_nil_of_le (by rw [← HN.out]; exact Nat.le_refl _)]; rfl
      have HR := hide hr
      clear hr
      go_wp2
      go_ret
      exact ⟨by rw [HR.out]; rfl, rfl⟩
theorem i64_eq {a b : Int} (h : a = b) : Value.int .i64 a = Value.int .i64 b := by rw [h]
set_option maxRecDepth 100000 in
theorem sizeOf_any (v : Nat) (x : Int) (w : World) (hx : x = v) (hv : v < 2 ^ 63) :
    Calls Try.prog 38 #[.int .i64 x] w fun e w' => e = .returned (.int .i64 ((uv v).length : Int)) ∧ w = w' := by
  subst hx
  have HE := hide (uv_len v (by omega))
  obtain ⟨b, hb⟩ : ∃ b, b = Lib.bitLen v := ⟨_, rfl⟩
  have hb64 : b ≤ 64 := by rw [hb]; exact bl_64 v (by omega)
  rw [← hb] at HE
  have HB := hide hb
  have HV := hide hv
  clear hb hv
  have e1 : IntKind.u64.wrap (v : Int) = (v : Int) := by rw [IntKind.wrap_u64]; have := HV.out; omega
  go_enter Try.func38, Try.ntmps38
  go_wp2_with fail
  refine (len64_any (v : Int) v _ rfl (by have := HV.out; omega)).mono ?_
  rintro e w' ⟨rfl, rfl⟩
  rw [← HB.out]
  go_wp2
  go_ret
  rw [HE.out]
  exact ⟨ret_int (by omega), rfl⟩
set_option maxHeartbeats 1000000 in
set_option maxRecDepth 100000 in
theorem cost_any (a : Option Addr) (n cap : Nat) (vs : List Nat) (wd : Nat) (x : Int) (w : World) (h : IsV w a n vs) (hok : okV vs) (hx : x = wd) (hw : wd ≤ 31) :
    Calls Try.prog 25 #[.slice a n cap, .int .i64 x] w fun e w' => e = .returned (.int .i64 ((costF vs wd : Nat) : Int)) ∧ w = w' := by
  subst hx
  have HI := hide h
  have HN := hide h.1
  have HOK := hide hok
  have hn128 : n ≤ 128 := by rw [h.1]; exact hok.1
  clear h hok
  go_enter Try.func25, Try.ntmps25
  go_wp2_with fail
  go_loopw [5, 6, 7, 13] (fun s c bf i wr => ∃ k E C G : Nat, s = .int .i64 (E : Int) ∧ c = .int .i64 (C : Int) ∧ bf = .int .i64 ((k : Int) - G) ∧ i = .int .i64 (k : Int) ∧ k ≤ n ∧ Hid (E = (exB wd 1 (vs.take k)).length) ∧ Hid (C = exN wd (vs.take k)) ∧ Hid (G = gapD wd 1 (vs.take k)) ∧ 1 ≤ G ∧ G ≤ k + 1 ∧ E ≤ 20 * k ∧ C ≤ k ∧ w = wr) (fun _ _ _ i _ => n - (intOf i).toNat)
  case atStart => exact ⟨0, 0, 0, 1, rfl, rfl, rfl, rfl, Nat.zero_le _, hide rfl, hide rfl, hide rfl, Nat.le_refl _, Nat.le_refl _, Nat.le_refl _, Nat.le_refl _, rfl⟩
  case round =>
    obtain ⟨k, E, C, G, rfl, rfl, rfl, rfl, hk, HE, HC, HG, g1, g2, g3, g4, rfl⟩ := hrel
    by_cases hlt : k < n
    · obtain ⟨b, o, v, rfl, hbl, hv, e0⟩ := HI.out.at_ hlt
      have hkn : (k : Int) < (n : Int) := by omega
      have hv31 : v < 2 ^ 31 := HOK.out.2 v (List.mem_of_getElem? hv)
      have ht := take_at hv
      have HB := hide (exB_snoc wd v (vs.take k) 1)
      have HCC := hide (exN_snoc wd v (vs.take k))
      have HGG := hide (gapD_snoc wd v (vs.take k) 1)
      rw [← ht] at HB HCC HGG
      rw [← HG.out] at HB HGG
      rw [← HC.out] at HCC
      obtain ⟨q, hq⟩ : ∃ q, q = v / 2 ^ wd := ⟨_, rfl⟩
      rw [← hq] at HB HCC HGG
      have hqv : q < 2 ^ 31 := by rw [hq]; exact Nat.lt_of_le_of_lt (Nat.div_le_self _ _) hv31
      have e1 : ((v : Int) / 2 ^ wd) = (q : Int) := by rw [hq]; simp
      have HQ := hide hq
      clear hv ht hlt hq
      by_cases h0 : q = 0
      · subst h0
        go_wp2
        go_roundw
        case rel =>
          refine ⟨k + 1, E, C, G + 1, rfl, rfl, i64_eq (by omega), by go_num, by omega, hide ?_, hide ?_, hide ?_, by omega, by omega, by omega, by omega, trivial⟩
          · rw [HB.out, if_pos rfl, List.append_nil]; exact HE.out
          · rw [HCC.out, if_pos rfl]
          · rw [HGG.out, if_pos rfl]
        case measure => simp [intOf]; omega
      · have q0 : (0 : Int) < q := by omega
        have HB2 := hide (show (exB wd 1 (vs.take (k + 1))).length = E + ((uv G).length + (uv q).length) by rw [HB.out, if_neg h0, HE.out]; simp only [List.length_append])
        obtain ⟨x1, hx1⟩ : ∃ x, x = (uv G).length := ⟨_, rfl⟩
        obtain ⟨x2, hx2⟩ : ∃ x, x = (uv q).length := ⟨_, rfl⟩
        have l1 : x1 ≤ 10 := by rw [hx1]; exact (uv_le10 G).2
        have l2 : x2 ≤ 10 := by rw [hx2]; exact (uv_le10 q).2
        rw [← hx1, ← hx2] at HB2
        have HX1 := hide hx1
        have HX2 := hide hx2
        have HCC2 := hide (show exN wd (vs.take (k + 1)) = C + 1 by rw [HCC.out, if_neg h0])
        have HGG2 := hide (show gapD wd 1 (vs.take (k + 1)) = 1 by rw [HGG.out, if_neg h0])
        clear HB HCC HGG hx1 hx2 h0
        go_wp2_with fail
        refine (sizeOf_any G _ _ (by omega) (by omega)).mono ?_
        rintro e w' ⟨rfl, rfl⟩
        rw [← HX1.out]
        go_wp2_with fail
        refine (sizeOf_any q _ _ rfl (by omega)).mono ?_
        rintro e w' ⟨rfl, rfl⟩
        rw [← HX2.out]
        go_wp2
        go_roundw
        case rel => exact ⟨k + 1, E + (x1 + x2), C + 1, 1, i64_eq (by omega), by go_num, i64_eq (by omega), by go_num, by omega, hide HB2.out.symm, hide HCC2.out.symm, hide HGG2.out.symm, by omega, by omega, by omega, by omega, trivial⟩
        case measure => simp [intOf]; omega
    · obtain rfl : k = n := by omega
      have hall : vs.take k = vs := List.take_of_length_le (by rw [← HN.out]; exact Nat.le_refl _)
      rw [hall] at HE HC HG
      have HL := hide (encM_length wd vs)
      rw [← HE.out, ← HC.out, ← HN.out] at HL
      have m1 : k * wd ≤ 128 * 31 := Nat.mul_le_mul hn128 hw
      obtain ⟨m, hm⟩ : ∃ m, m = k * wd := ⟨_, rfl⟩
      have em : (k : Int) * (wd : Int) = (m : Int) := by rw [hm]; simp
      rw [← hm] at m1 HL
      obtain ⟨x1, hx1⟩ : ∃ x, x = (uv k).length := ⟨_, rfl⟩
      obtain ⟨x2, hx2⟩ : ∃ x, x = (uv wd).length := ⟨_, rfl⟩
      obtain ⟨x3, hx3⟩ : ∃ x, x = (uv C).length := ⟨_, rfl⟩
      have l1 : x1 ≤ 10 := by rw [hx1]; exact (uv_le10 k).2
      have l2 : x2 ≤ 10 := by rw [hx2]; exact (uv_le10 wd).2
      have l3 : x3 ≤ 10 := by rw [hx3]; exact (uv_le10 C).2
      rw [← hx1, ← hx2, ← hx3] at HL
      have HX1 := hide hx1
      have HX2 := hide hx2
      have HX3 := hide hx3
      clear hx1 hx2 hx3 hm hall
      go_wp2_with fail
      refine (sizeOf_any k _ _ rfl (by omega)).mono ?_
      rintro e w' ⟨rfl, rfl⟩
      rw [← HX1.out]
      go_wp2_with fail
      refine (sizeOf_any wd _ _ rfl (by omega)).mono ?_
      rintro e w' ⟨rfl, rfl⟩
      rw [← HX2.out]
      go_wp2_with fail
      refine (sizeOf_any C _ _ rfl (by omega)).mono ?_
      rintro e w' ⟨rfl, rfl⟩
      rw [← HX3.out]
      go_wp2
      go_ret
      refine ⟨ret_int ?_, rfl⟩
      unfold costF
      rw [HL.out]
      unfold nby
      omega
end Go.Proofs.Ytchcaidcohgjbaa
