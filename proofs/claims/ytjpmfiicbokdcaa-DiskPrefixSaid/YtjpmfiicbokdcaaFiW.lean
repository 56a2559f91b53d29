/- Texts (equal lists of strings), and the walk of DiskDurable. -/
import Derived.Test.YtjpmfiicbokdcaaFeW
import Derived.Test.YtjpmfiicbokdcaaFgW
import Derived.Test.YtjpmfiicbokdcaaVN
namespace Go.Proofs.Ytjpmfiicbokdcaa
open Go.RowKit
set_option linter.unusedVariables false
set_option linter.unusedSimpArgs false
set_option maxHeartbeats 4000000 in
set_option maxRecDepth 100000 in
theorem texts_any (a1 : Option Addr) (n c1 : Nat) (a2 : Option Addr) (c2 : Nat) (l : List (List UInt8)) (w : World) (hn : n = l.length) (hn9 : n ≤ 1000000) (h1 : Rd w a1 (encS l)) (h2 : Rd w a2 (encS l)) :
    Calls Try.prog 25 #[.slice a1 n c1, .slice a2 n c2] w fun e w' => e = .returned (.bool true) ∧ Below w.heap.size w w' := by
  have HN := hide hn
  have H1 := hide h1
  have H2 := hide h2
  have HB0 := hide (bl_refl w)
  clear hn h1 h2
  go_enter Try.func25, Try.ntmps25
  go_wp2_with fail
  go_loopw [13] (fun kv wr => ∃ (k : Nat), kv = .int .i64 (k : Int) ∧ k ≤ n ∧ Hid (Below w.heap.size w wr)) (fun kv _ => n - (intOf kv).toNat)
  case atStart => exact ⟨0, rfl, by omega, HB0⟩
  case round =>
    clear HB0
    obtain ⟨k, rfl, hk, HB⟩ := hrel
    by_cases hlt : k < n
    · obtain ⟨s, hs⟩ : ∃ s, l[k]? = some s := ⟨_, List.getElem?_eq_getElem (by rw [← HN.out]; exact hlt)⟩
      obtain ⟨b, o, rfl, hbl, e0⟩ := (H1.out.below HB.out).at_ (show (encS l)[k]? = some (.string (bstr s)) by rw [encS_get, hs]; rfl)
      obtain ⟨b', o', rfl, hbl', e1⟩ := (H2.out.below HB.out).at_ (show (encS l)[k]? = some (.string (bstr s)) by rw [encS_get, hs]; rfl)
      have hkn : (k : Int) < (n : Int) := by omega
      have f0 : ∀ wx, CB wr.drew wx → wx.cell? ⟨b, o + k, none⟩ = some (.string (bstr s)) := fun wx h => h.cell e0
      have f1 : ∀ wx, CB wr.drew wx → wx.cell? ⟨b', o' + k, none⟩ = some (.string (bstr s)) := fun wx h => h.cell e1
      clear hs
      go_wp2_with fail
      refine wp_region_K 9 (by kernel_rfl) (by kernel_rfl) (fun Q HQ => ?_)
      simp only [List.take_succ_cons, List.take_zero, List.map_cons, List.map_nil]
      repeat
        first | apply wpS_c rfl | apply wpS_gc rfl (guard_mk rfl rfl)
        focus
          intro ev wx hC hx
          (try simp [Op.operands, Call.operands, opndS, Slot.holds] at hx)
          go_simp
          try (first | exact rfl | exact ⟨Below.refl _ _, rfl⟩)
          done
        dsimp only [setS, List.set]
      refine wpS_nil (HQ _ fun w5 hC5 => ?_)
      simp only [closeS, List.drop_succ_cons, List.drop_zero]
      have HB5 := hide (bl_trans HB.out hC5.below)
      clear HQ hC5 f0 f1 e0 e1
      go_wp2
      go_roundw
      case rel => exact ⟨k + 1, by go_num, by omega, HB5⟩
      case measure => simp [intOf]; omega
    · obtain rfl : k = n := by omega
      have hkn : ¬ (k : Int) < (k : Int) := by omega
      go_wp2
      go_ret
      exact ⟨rfl, HB.out⟩
end Go.Proofs.Ytjpmfiicbokdcaa
