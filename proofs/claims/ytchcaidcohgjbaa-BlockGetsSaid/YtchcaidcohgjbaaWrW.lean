/- The walks of the Writer's methods. -/
import Derived.Test.YtchcaidcohgjbaaLenW
namespace Go.Proofs.Ytchcaidcohgjbaa
open Go.RowKit
set_option linter.unusedVariables false
set_option linter.unusedSimpArgs false

theorem WStep.next {base g : Nat} {r : Option Nat} {w w1 : World} {l1 : List Bool} (h : WStep base g r w l1 w1) (hbs : base ≤ w.heap.size) :
    ∃ r1, WrS w1 base g r1 l1 ∧ base ≤ w1.heap.size ∧ ∀ l2 w2, WStep base g r1 w1 l2 w2 → WStep base g r w l2 w2 := by
  obtain ⟨r1, hs, hc, hr⟩ := h
  exact ⟨r1, hs, Nat.le_trans hbs hc.size, fun l2 w2 h2 => WStep.trans hc hr h2⟩
set_option maxRecDepth 100000 in
theorem wbits_any (base g : Nat) (r : Option Nat) (l : List Bool) (v n : Int) (vn : Nat) (w : World) (hv : v = vn) (hvb : vn < 2 ^ 64) (hw : WrS w base g r l) (hl : l.length < 80000000) (hbs : base ≤ w.heap.size) :
    Calls Try.prog 35 #[.pointer (some ⟨g, 0, none⟩), .int .u64 v, .int .i64 n] w fun e w' => e = .returned (.int .i64 (cod (wBits vn n))) ∧ WStep base g r w (l ++ (wBits vn n).getD []) w' := by
  have HW := hide hw
  have HB := hide hvb
  have HV := hide hv
  have HL := hide hl
  obtain ⟨b, hb⟩ : ∃ b, b = Lib.bitLen vn := ⟨_, rfl⟩
  have hb64 : b ≤ 64 := by rw [hb]; exact bl_64 vn hvb
  have HBL := hide hb
  clear hw hvb hv hl hb
  go_enter Try.func35, Try.ntmps35
  have hno : ∀ (h : ¬ (0 ≤ n ∧ n ≤ 64 ∧ (Lib.bitLen vn : Int) ≤ n)), wBits vn n = none := fun h => if_neg h
  have HNO := hide hno
  clear hno
  have HYES := hide (show ∀ (h : 0 ≤ n ∧ n ≤ 64 ∧ (Lib.bitLen vn : Int) ≤ n), wBits vn n = some (lowB vn n.toNat) from fun h => if_pos h)
  by_cases h1 : n < 0
  · go_wp2
    go_ret
    have e := HNO.out (by omega)
    rw [e]
    exact ⟨rfl, by simpa using WStep.refl HW.out⟩
  by_cases h2 : 64 < n
  · go_wp2
    go_ret
    have e := HNO.out (by omega)
    rw [e]
    exact ⟨rfl, by simpa using WStep.refl HW.out⟩
  obtain ⟨m, rfl⟩ := Int.eq_ofNat_of_zero_le (show 0 ≤ n by omega)
  have hm : m ≤ 64 := by omega
  go_wp2_with fail
  refine (len64_any v vn _ HV.out HB.out).mono ?_
  rintro e w' ⟨rfl, rfl⟩
  rw [← HBL.out]
  by_cases h3 : (m : Int) < b
  · go_wp2
    go_ret
    have e := HNO.out (by rw [← HBL.out]; omega)
    rw [e]
    exact ⟨rfl, by simpa using WStep.refl HW.out⟩
  · go_wp2_with fail
    refine (low_any base g r l v _ vn m w HV.out rfl HB.out hm HW.out (Nat.lt_trans HL.out (by omega)) hbs).mono ?_
    rintro e w' ⟨rfl, hst⟩
    have HST := hide hst
    clear hst
    go_wp2
    go_ret
    have e := HYES.out (by rw [← HBL.out]; omega)
    rw [e]
    exact ⟨rfl, HST.out⟩
set_option maxRecDepth 100000 in
theorem wbytes_any (base g : Nat) (r : Option Nat) (l : List Bool) (w : World) (hw : WrS w base g r l) (hl : l.length < 100000000) (hbs : base ≤ w.heap.size) :
    Calls Try.prog 37 #[.pointer (some ⟨g, 0, none⟩)] w fun e w' => ∃ v, e = .returned v ∧ w'.ownsRow w.heap.size 5 1 v (packL l).length ((packL l).map u8v) ∧ Below w.heap.size w w' := by
  obtain ⟨v, hg, hb, ho, hr⟩ := hw
  have c0 : w.cell? ⟨g, 0, none⟩ = some v := cell_of_row w g 0 _ _ _ hg
  have HO := hide ho
  have HG := hide hg
  clear ho hg hr
  obtain ⟨i0, hi0, hz0, hz1, hz2⟩ := info_parts info_u8
  obtain ⟨hlen, A, c, rfl, _, hrd, _⟩ := own_form HO.out
  have HRD := hide hrd
  have HLEN := hide (show (packL l).length ≤ 100000000 by rw [packL_length]; unfold nby; omega)
  clear hlen hrd hl
  have c0' : (w.alloc (.cells #[] 5)).cell? ⟨g, 0, none⟩ = some (.slice A (packL l).length c) := by
    rw [(bl_alloc (bl_refl w) _).cell (lt_heap c0)]; exact c0
  clear c0
  go_enter Try.func37, Try.ntmps37
  go_wp2_with (at_builtin; refine wpList_append_rd _ rfl (.tmp 3) (.tmp 8) 28 rfl w.heap.size 5 i0 _ 1 1 Try.underlying28 hi0 hz0 hz1 hz2 rfl (by omega) (.slice (some ⟨w.heap.size, 0, none⟩) 0 0) 0 [] rfl (own_empty (Nat.le_refl _) (heap_alloc_new w _)) A (packL l).length c ((packL l).map u8v) rfl (by simp) (HRD.out.alloc _) (u8s_one _) (by have := HLEN.out; simp only [maxLen]; omega) (by have := HLEN.out; omega) (by simp) ?_; intro v2 w2 ho2 hg2 hat2)
  go_ret
  rw [Nat.zero_add, List.nil_append] at ho2
  exact ⟨v2, rfl, ho2, bl_grown (bl_alloc (bl_refl w) _) hg2 (fun k h => by simp [Value.ownBlock] at h; omega)⟩
set_option maxRecDepth 100000 in
theorem newwriter_any (w : World) :
    Calls Try.prog 34 #[] w fun e w' => e = .returned (.pointer (some ⟨w.heap.size, 0, none⟩)) ∧ WrS w' w.heap.size w.heap.size none [] ∧ Below w.heap.size w w' := by
  go_enter Try.func34, Try.ntmps34
  go_wp2_with fail
  go_ret
  exact ⟨rfl, ⟨_, heap_alloc_new w _, Nat.le_refl _, ⟨rfl, .inl ⟨rfl, rfl⟩⟩, rfl⟩, bl_alloc (bl_refl w) _⟩
end Go.Proofs.Ytchcaidcohgjbaa
