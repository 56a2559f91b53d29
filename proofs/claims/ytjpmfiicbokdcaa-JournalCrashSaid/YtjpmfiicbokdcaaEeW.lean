/- strings.Repeat (the shelf's contract, laid) and the choice of the program's Crash. -/
import Derived.Shelf.Strings.Repeat
import Derived.Test.YtjpmfiicbokdcaaEdW
namespace Go.Proofs.Ytjpmfiicbokdcaa
open Go.Shelf in
def Try.lays105_ren : Go.Shelf.Ren := ⟨fun | 105 => 50 | 212 => 72 | 99 => 73 | 165 => 74 | 166 => 75 | 170 => 76 | 169 => 77 | 263 => 89 | 264 => 90 | 206 => 91 | 240 => 92 | 241 => 93 | 276 => 98 | 277 => 99 | n => n, fun | 9 => 9 | 3 => 3 | 4 => 4 | 20 => 20 | 0 => 0 | 46 => 104 | 109 => 105 | 5 => 5 | 72 => 110 | 76 => 114 | 51 => 96 | 146 => 127 | 53 => 129 | 148 => 130 | 70 => 108 | 37 => 91 | 75 => 113 | 127 => 132 | 164 => 136 | 80 => 117 | n => n, fun | n => n⟩
open Go.Shelf in
theorem Try.lays105 : Go.Proofs.Lays.n105 Try.prog Try.lays105_ren := {
  mixed := by kernel_rfl
  f99 := Try.func73.trans (congrArg some (by kernel_rfl))
  f105 := Try.func50.trans (congrArg some (by kernel_rfl))
  f165 := Try.func74.trans (congrArg some (by kernel_rfl))
  f166 := Try.func75.trans (congrArg some (by kernel_rfl))
  f169 := Try.func77.trans (congrArg some (by kernel_rfl))
  f170 := Try.func76.trans (congrArg some (by kernel_rfl))
  f206 := Try.func91.trans (congrArg some (by kernel_rfl))
  f212 := Try.func72.trans (congrArg some (by kernel_rfl))
  f240 := Try.func92.trans (congrArg some (by kernel_rfl))
  f241 := Try.func93.trans (congrArg some (by kernel_rfl))
  f263 := Try.func89.trans (congrArg some (by kernel_rfl))
  f264 := Try.func90.trans (congrArg some (by kernel_rfl))
  f276 := Try.func98.trans (congrArg some (by kernel_rfl))
  f277 := Try.func99.trans (congrArg some (by kernel_rfl))
  t0 := Try.underlying0
  a0 := Try.isAgg0
  z0 := Try.sizeOf0
  v0 := Try.zeroValue0
  t3 := Try.underlying3
  a3 := Try.isAgg3
  z3 := Try.sizeOf3
  v3 := Try.zeroValue3
  t4 := Try.underlying4
  a4 := Try.isAgg4
  z4 := Try.sizeOf4
  v4 := Try.zeroValue4
  t5 := Try.underlying5
  a5 := Try.isAgg5
  z5 := Try.sizeOf5
  v5 := Try.zeroValue5
  t9 := Try.underlying9
  a9 := Try.isAgg9
  z9 := Try.sizeOf9
  v9 := Try.zeroValue9
  t20 := Try.underlying20
  a20 := Try.isAgg20
  z20 := Try.sizeOf20
  v20 := Try.zeroValue20
  t37 := Try.underlying91
  a37 := Try.isAgg91
  z37 := Try.sizeOf91
  v37 := Try.zeroValue91
  t46 := Try.underlying104
  a46 := Try.isAgg104
  z46 := Try.sizeOf104
  v46 := Try.zeroValue104
  t51 := Try.underlying96
  a51 := Try.isAgg96
  z51 := Try.sizeOf96
  v51 := Try.zeroValue96
  t53 := Try.underlying129
  a53 := Try.isAgg129
  z53 := Try.sizeOf129
  v53 := Try.zeroValue129
  t70 := Try.underlying108
  a70 := Try.isAgg108
  z70 := Try.sizeOf108
  v70 := Try.zeroValue108
  t72 := Try.underlying110
  a72 := Try.isAgg110
  z72 := Try.sizeOf110
  v72 := Try.zeroValue110
  t75 := Try.underlying113
  a75 := Try.isAgg113
  z75 := Try.sizeOf113
  v75 := Try.zeroValue113
  t76 := Try.underlying114
  a76 := Try.isAgg114
  z76 := Try.sizeOf114
  v76 := Try.zeroValue114
  t109 := Try.underlying105
  a109 := Try.isAgg105
  z109 := Try.sizeOf105
  v109 := Try.zeroValue105
  t127 := Try.underlying132
  a127 := Try.isAgg132
  z127 := Try.sizeOf132
  v127 := Try.zeroValue132
  t146 := Try.underlying127
  a146 := Try.isAgg127
  z146 := Try.sizeOf127
  v146 := Try.zeroValue127
  t148 := Try.underlying130
  a148 := Try.isAgg130
  z148 := Try.sizeOf130
  v148 := Try.zeroValue130
  t164 := Try.underlying136
  a164 := Try.isAgg136
  z164 := Try.sizeOf136
  v164 := Try.zeroValue136 }
open Go.RowKit
set_option linter.unusedVariables false
set_option linter.unusedSimpArgs false
theorem repExtra : Go.Proofs.Builder.Extra Try.prog Try.lays105_ren := {
  sizeBuilder := by kernel_rfl
  liesBuilder := by kernel_rfl
  t5 := Try.lays105.t5
  a5 := Try.lays105.a5
  z5 := Try.lays105.z5
  v5 := Try.lays105.v5
  infoByte := by kernel_rfl
  cellsByte := by kernel_rfl
  sizeByte := by kernel_rfl
  neB5 := by decide }
theorem repeatL_zero (c : Nat) : Lib.repeatL [(0 : UInt8)] c = List.replicate c 0 := by
  induction c with
  | zero => rfl
  | succ c ih =>
    rw [List.replicate_succ, ← ih]
    rfl
theorem repeat_any (c : Nat) (w : World) (hc : c ≤ 4) :
    Calls Try.prog 50 #[.string ⟨#[0]⟩, .int .i64 (c : Int)] w fun e w' => e = .returned (.string (bstr (List.replicate c 0))) ∧ Below w.heap.size w w' := by
  have h := Go.Proofs.Any.strings_Repeat Try.lays105 repExtra ⟨#[0]⟩ c w (by omega) (by show 1 * c ≤ _; omega)
  refine h.mono ?_
  rintro e w' ⟨rfl, hb⟩
  refine ⟨?_, hb⟩
  have : (⟨#[0]⟩ : ByteArray).data.toList = [(0 : UInt8)] := rfl
  rw [this, repeatL_zero]
  rfl
theorem tmod_back {y n : Int} (h0 : -n < y) (h1 : y < n) (hn : 1 ≤ n) : (y + n).tmod n = if y < 0 then y + n else y := by
  rw [Int.tmod_eq_emod_of_nonneg (by omega)]
  split
  · exact Int.emod_eq_of_lt (by omega) (by omega)
  · rw [Int.add_emod_right]; exact Int.emod_eq_of_lt (by omega) h1
set_option maxRecDepth 100000 in
theorem pchoice_any (g : Nat) (a : Option Addr) (m c : Nat) (l : List Int) (i : Nat) (n : Int) (T : TypeId) (w : World) (hb : Blk w g [.slice a m c] T) (h : Rd w a (l.map (Value.int .i64))) (hm : m = l.length) (hi : i ≤ 1000000000) (hn1 : 1 ≤ n) (hn : n ≤ 1000000000) :
    Calls Try.prog 48 #[.int .i64 (i : Int), .int .i64 n, .pointer (some ⟨g, 0, none⟩)] w fun e w' => e = .returned (.int .i64 (choM l i n)) ∧ w = w' := by
  have hcb : w.cell? ⟨g, 0, none⟩ = some _ := hb.cell rfl
  have hlb := hb.lt
  clear hb
  by_cases hil : i < m
  · obtain ⟨x, hx⟩ : ∃ x, l[i]? = some x := ⟨_, List.getElem?_eq_getElem (by omega)⟩
    obtain ⟨b, o, rfl, hbl, e0⟩ := h.at_ (show (l.map (Value.int .i64))[i]? = some (.int .i64 x) by rw [List.getElem?_map, hx]; rfl)
    have hir : (i : Int) < (m : Int) := by omega
    have hne : ¬ n = 0 := by omega
    have hne' : (n == 0) = false := by rw [beq_eq_false_iff_ne]; omega
    have b1 := Int.tmod_lt_of_pos x (show 0 < n by omega)
    have b2 := Int.lt_tmod_of_pos x (show 0 < n by omega)
    have hv : choM l i n = (x.tmod n + n).tmod n := by
      unfold choM
      rw [hx]
      simp only []
      rw [tmod_back b2 b1 hn1]
    rw [hv]
    obtain ⟨r, hr⟩ : ∃ r, r = x.tmod n := ⟨_, rfl⟩
    have hr' := hr.symm
    rw [← hr] at b1 b2 ⊢
    obtain ⟨s, hs⟩ : ∃ s, s = (r + n).tmod n := ⟨_, rfl⟩
    have hs' := hs.symm
    rw [← hs]
    clear hv hr hs h hm hx hbl
    go_enter Try.func48, Try.ntmps48
    go_wp2
    go_ret
    exact ⟨rfl, rfl⟩
  · have hv : choM l i n = 0 := by unfold choM; rw [List.getElem?_eq_none (by omega)]
    have hir : ¬ (i : Int) < (m : Int) := by omega
    have hir' : (m : Int) ≤ (i : Int) := by omega
    rw [hv]
    clear hv h hm
    go_enter Try.func48, Try.ntmps48
    go_wp2
    go_ret
    exact ⟨rfl, rfl⟩
end Go.Proofs.Ytjpmfiicbokdcaa
