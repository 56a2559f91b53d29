/- strings.Repeat (the shelf's contract, laid) and the choice of the program's Crash. -/
import Derived.Shelf.Lay
import Derived.Shelf.LaySoft
import Derived.Shelf.Strings.Repeat
import Derived.Test.YtjpmfiicbokdcaaEdW
namespace Go.Proofs.Ytjpmfiicbokdcaa
open Go.Shelf in
shelf_lay Lays.n105 Nm 105 at Try as Try.lays105
open Go.RowKit
set_option linter.unusedVariables false
set_option linter.unusedSimpArgs false
theorem repExtra : Go.Proofs.Builder.Extra Try.prog Try.lays105_ren where
  sizeBuilder := by kernel_rfl
  liesBuilder := by kernel_rfl
  t5 := Try.lays105.t5
  a5 := Try.lays105.a5
  z5 := Try.lays105.z5
  v5 := Try.lays105.v5
  infoByte := by kernel_rfl
  cellsByte := by kernel_rfl
  sizeByte := by kernel_rfl
  neB5 := by decide
theorem repeatL_zero (c : Nat) : Lib.repeatL [(0 : UInt8)] c = List.replicate c 0 := by
  induction c with
  | zero => rfl
  | succ c ih =>
    rw [List.replicate_succ, ← ih]
    rfl
theorem repeat_any (c : Nat) (w : World) (hc : c ≤ 4) :
    Calls Try.prog 50 #[.string ⟨#[0]⟩, .int .i64 (c : Int)] w fun e w' => e = .returned (.string (bstr (List.replicate c 0))) ∧ Below w.heap.size w w' := by
  have h := Go.Proofs.Any.strings_Repeat Try.lays105 repExtra ⟨#[0]⟩ c w (by omega) (by show 1 * c ≤ _; omega)
  refine h.mono ?_
  rintro e w' ⟨rfl, hb⟩
  refine ⟨?_, hb⟩
  have : (⟨#[0]⟩ : ByteArray).data.toList = [(0 : UInt8)] := rfl
  rw [this, repeatL_zero]
  rfl
theorem tmod_back {y n : Int} (h0 : -n < y) (h1 : y < n) (hn : 1 ≤ n) : (y + n).tmod n = if y < 0 then y + n else y := by
  rw [Int.tmod_eq_emod_of_nonneg (by omega)]
  split
  · exact Int.emod_eq_of_lt (by omega) (by omega)
  · rw [Int.add_emod_right]; exact Int.emod_eq_of_lt (by omega) h1
set_option maxRecDepth 100000 in
theorem pchoice_any (g : Nat) (a : Option Addr) (m c : Nat) (l : List Int) (i : Nat) (n : Int) (T : TypeId) (w : World) (hb : Blk w g [.slice a m c] T) (h : Rd w a (l.map (Value.int .i64))) (hm : m = l.length) (hi : i ≤ 1000000000) (hn1 : 1 ≤ n) (hn : n ≤ 1000000000) :
    Calls Try.prog 48 #[.int .i64 (i : Int), .int .i64 n, .pointer (some ⟨g, 0, none⟩)] w fun e w' => e = .returned (.int .i64 (choM l i n)) ∧ w = w' := by
  have hcb : w.cell? ⟨g, 0, none⟩ = some _ := hb.cell rfl
  have hlb := hb.lt
  clear hb
  by_cases hil : i < m
  · obtain ⟨x, hx⟩ : ∃ x, l[i]? = some x := ⟨_, List.getElem?_eq_getElem (by omega)⟩
    obtain ⟨b, o, rfl, hbl, e0⟩ := h.at_ (show (l.map (Value.int .i64))[i]? = some (.int .i64 x) by rw [List.getElem?_map, hx]; rfl)
    have hir : (i : Int) < (m : Int) := by omega
    have hne : ¬ n = 0 := by omega
    have hne' : (n == 0) = false := by rw [beq_eq_false_iff_ne]; omega
    have b1 := Int.tmod_lt_of_pos x (show 0 < n by omega)
    have b2 := Int.lt_tmod_of_pos x (show 0 < n by omega)
    have hv : choM l i n = (x.tmod n + n).tmod n := by
      unfold choM
      rw [hx]
      simp only []
      rw [tmod_back b2 b1 hn1]
    rw [hv]
    obtain ⟨r, hr⟩ : ∃ r, r = x.tmod n := ⟨_, rfl⟩
    have hr' := hr.symm
    rw [← hr] at b1 b2 ⊢
    obtain ⟨s, hs⟩ : ∃ s, s = (r + n).tmod n := ⟨_, rfl⟩
    have hs' := hs.symm
    rw [← hs]
    clear hv hr hs h hm hx hbl
    go_enter Try.func48, Try.ntmps48
    go_wp2
    go_ret
    exact ⟨rfl, rfl⟩
  · have hv : choM l i n = 0 := by unfold choM; rw [List.getElem?_eq_none (by omega)]
    have hir : ¬ (i : Int) < (m : Int) := by omega
    have hir' : (m : Int) ≤ (i : Int) := by omega
    rw [hv]
    clear hv h hm
    go_enter Try.func48, Try.ntmps48
    go_wp2
    go_ret
    exact ⟨rfl, rfl⟩
end Go.Proofs.Ytjpmfiicbokdcaa
