/- The walks of long and Intersect. -/
import Derived.Test.YtbicpnhgokngeaaLAwW
namespace Go.Proofs.Ytbicpnhgokngeaa
open Go.RowKit
set_option linter.unusedVariables false
set_option linter.unusedSimpArgs false
/-- A slice of ints that came in: a list of numbers, read. -/
theorem IsRow.ints {w : World} {a : Option Addr} {len cap : Nat} {zs : List Int} (h : IsRow .i64 w a len cap zs) :
    ∃ l : List Int, IsI w a len l ∧ len ≤ cap ∧ cap ≤ maxLen ∧ ∀ x ∈ l, (Lit.int .i64 x).wf = true := by
  rcases h with ⟨rfl, rfl, rfl, rfl⟩ | ⟨x, rfl, hl, hm, hz, hc, hw⟩
  · exact ⟨[], ⟨rfl, .inl rfl⟩, Nat.le_refl _, Nat.zero_le _, fun _ h => by simp at h⟩
  · refine ⟨zs.take len, ⟨by simp; omega, ?_⟩, hl, hm, fun y hy => hw y (List.mem_of_mem_take hy)⟩
    rcases Nat.eq_zero_or_pos len with h0 | h0
    · subst h0; exact .inl (by simp)
    · have hx0 := hc 0 (by omega)
      have hsp : x.spot = none := by simpa [Addr.add] using World.cell?_spot hx0
      obtain ⟨b, o, sp⟩ := x
      subst hsp
      refine .inr ⟨b, o, rfl, lt_heap (a := (⟨b, o, none⟩ : Addr).add 0) hx0, fun k v hv => ?_⟩
      rw [List.getElem?_map, Option.map_eq_some_iff] at hv
      obtain ⟨n, hn, rfl⟩ := hv
      have hk : k < zs.length := by
        have := (List.getElem?_eq_some_iff.1 hn).1
        simp at this; omega
      have h1 := hc k hk
      rw [Addr.add_lit] at h1
      rw [h1]
      have hnz : zs.getD k 0 = n := by
        rw [List.getElem?_take] at hn
        split at hn
        · simp [List.getD, hn]
        · cases hn
      rw [hnz]
      rfl
def longM (ls : List (List Int)) : Bool := ls.any (fun l => decide (100 < l.length)) || decide (12 < ls.length)
set_option maxHeartbeats 1000000 in
set_option maxRecDepth 100000 in
theorem long_any (a : Option Addr) (n cap : Nat) (ls : List (List Int)) (w : World) (h : IsLL w a n ls) (hn : n ≤ 9223372036854775807) :
    Calls Try.prog 4 #[.slice a n cap] w fun e w' => e = .returned (.bool (longM ls)) ∧ Below w.heap.size w w' := by
  have HI := hide h
  have HN := hide h.1
  clear h
  go_enter Try.func4, Try.ntmps4
  go_wp2_with fail
  go_loopw [7] (fun i wr => ∃ k : Nat, i = .int .i64 (k : Int) ∧ k ≤ n ∧ Hid (∀ l ∈ ls.take k, ¬ 100 < l.length) ∧ Below w.heap.size w wr) (fun i _ => n - (intOf i).toNat)
  case atStart => exact ⟨0, rfl, Nat.zero_le _, hide (fun l h => by simp at h), bl_refl w⟩
  case round =>
    obtain ⟨k, rfl, hk, HC, hb⟩ := hrel
    by_cases hlt : k < n
    · obtain ⟨b, o, l, a', c, rfl, hbl, hx, e0, hlc, hcm, hi⟩ := (HI.out.below hb).at_ hlt
      have hkn : (k : Int) < (n : Int) := by omega
      have HX := hide hx
      obtain ⟨m, hm⟩ : ∃ m, m = l.length := ⟨_, rfl⟩
      rw [← hm] at e0
      have HM := hide hm
      clear hx hi hlt hm
      by_cases h1 : 100 < m
      · have h1' : (100 : Int) < (m : Int) := by omega
        have hr : longM ls = true := by
          unfold longM
          rw [List.any_eq_true.2 ⟨l, List.mem_of_getElem? HX.out, by rw [← HM.out]; simpa using h1⟩]; rfl
        have HR := hide hr
        clear hr
        go_wp2
        go_ret
        exact ⟨by rw [HR.out]; rfl, hb⟩
      · have h1' : ¬ (100 : Int) < (m : Int) := by omega
        go_wp2
        go_roundw
        case rel =>
          refine ⟨k + 1, by go_num, by omega, hide fun y hy => ?_, hb⟩
          rw [take_snoc' ls k l HX.out] at hy
          rcases List.mem_append.1 hy with h | h
          · exact HC.out y h
          · simp at h; subst h; rw [← HM.out]; exact h1
        case measure => simp [intOf]; omega
    · obtain rfl : k = n := by omega
      have hr : longM ls = decide (12 < (k : Int)) := by
        have h2 := HC.out
        rw [List.take_of_length_le (by rw [← HN.out]; exact Nat.le_refl _)] at h2
        have h3 : ls.any (fun l => decide (100 < l.length)) = false := by
          rw [List.any_eq_false]
          intro l hl
          have := h2 l hl
          simpa using this
        unfold longM
        rw [h3, ← HN.out, Bool.false_or, decide_eq_decide]
        omega
      have HR := hide hr
      clear hr hlt
      go_wp2
      go_ret
      exact ⟨by rw [HR.out]; first | rfl | simp, hb⟩
def interM (la lb : List Int) : List Int × Nat := if chkA [la, lb] = 0 then (both la lb, 0) else ([], chkA [la, lb])
def subM (la lb : List Int) : List Int × Nat := if chkA [la, lb] = 0 then (less la lb, 0) else ([], chkA [la, lb])
theorem chk_two {la lb : List Int} (h : chkA [la, lb] = 0) : (la.length ≤ 4096 ∧ asc la) ∧ lb.length ≤ 4096 ∧ asc lb := by
  have h1 := (chkA_zero [la, lb]).1 h
  have h2 := (chkL_zero la).1 (h1 la (by simp))
  have h3 := (chkL_zero lb).1 (h1 lb (by simp))
  exact ⟨⟨h2.1, h2.2.2⟩, h3.1, h3.2.2⟩
set_option maxHeartbeats 1000000 in
set_option maxRecDepth 100000 in
theorem inter_any (a b : Option Addr) (n c m d : Nat) (la lb : List Int) (w : World) (ha : IsI w a n la) (hb : IsI w b m lb) (hc : n ≤ c) (hd : m ≤ d) (hcm : c ≤ maxLen) (hdm : d ≤ maxLen) :
    Calls Try.prog 8 #[.slice a n c, .slice b m d] w fun e w' => LRes w.heap.size (interM la lb) e w' ∧ Below w.heap.size w w' := by
  have HL := hide (ll_two (e := 22) ha hb hc hd hcm hdm)
  have HA := hide ha
  have HB := hide hb
  clear ha hb
  go_enter Try.func8, Try.ntmps8
  go_wp2_with fail
  refine (all_any _ 2 2 [la, lb] _ HL.out (by decide)).mono ?_
  rintro e w1 ⟨rfl, hb1⟩
  have hb0 : Below w.heap.size w w1 := bl_trans (bl_alloc (bl_refl w) _) hb1
  by_cases hz : chkA [la, lb] = 0
  · obtain ⟨⟨h1, h2⟩, h3, h4⟩ := chk_two hz
    rw [← HA.out.1] at h1
    rw [← HB.out.1] at h3
    have hr : interM la lb = (both la lb, 0) := by unfold interM; rw [if_pos hz]
    rw [hz]
    have HR := hide hr
    have H2 := hide h2
    have H4 := hide h4
    clear hz hr h2 h4 hb1
    go_wp2_with fail
    refine (split_any a b n c m d la lb w1 (HA.out.below hb0) (HB.out.below hb0) hc hd hdm H2.out H4.out (by omega) (by omega)).mono ?_
    rintro e w2 ⟨v1, v2, rfl, hown1, hown2, hb2⟩
    have HO := hide (own_base hown1 hb0.size)
    have hb02 := hb0.trans (hb2.mono hb0.size)
    clear hown1 hown2
    go_wp2
    go_ret2
    exact ⟨⟨v1, by rw [HR.out]; rfl, by rw [HR.out]; exact HO.out⟩, hb02⟩
  · have hr : interM la lb = ([], chkA [la, lb]) := by unfold interM; rw [if_neg hz]
    obtain ⟨q, hq⟩ : ∃ q, q = chkA [la, lb] := ⟨_, rfl⟩
    rw [← hq] at hr hz ⊢
    have hqz : ((q : Int) != 0) = true := by rw [bne_iff_ne]; omega
    have HR := hide hr
    clear hr hz hq hb1
    go_wp2
    go_ret2
    exact ⟨⟨_, by rw [HR.out]; rfl, by rw [HR.out]; exact World.ownsRow_nil _ _ _ _⟩, hb0⟩
end Go.Proofs.Ytbicpnhgokngeaa
