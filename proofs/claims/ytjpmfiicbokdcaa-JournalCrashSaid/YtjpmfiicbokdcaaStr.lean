/- Strings as lists of bytes, for the walks: nothing of the program is named here. -/
import Derived.Test.YtjpmfiicbokdcaaApp
import Derived.Laws.Concat
import Derived.Lib.AppendStr
namespace Go.Proofs.Ytjpmfiicbokdcaa
open Go.RowKit
set_option linter.unusedVariables false
theorem str_size {S : ByteArray} {l : List UInt8} (h : S = bstr l) : S.size = l.length := by subst h; rfl
theorem str_get {S : ByteArray} {l : List UInt8} (h : S = bstr l) {i : Nat} {c : UInt8} (hc : l[i]? = some c) : ∀ hi, S[i]'hi = c := by
  subst h
  intro hi
  obtain ⟨h1, h2⟩ := List.getElem?_eq_some_iff.1 hc
  exact h2
theorem str_at {S : ByteArray} {l : List UInt8} (h : S = bstr l) {i : Nat} (hi : i < l.length) : ∃ c, l[i]? = some c ∧ ∀ hi, S[i]'hi = c := ⟨l[i], by simp [hi], str_get h (by simp [hi])⟩
theorem bstr_app (a b : List UInt8) : bstr a ++ bstr b = bstr (a ++ b) := by
  apply ByteArray.ext
  rw [ByteArray.data_append]
  simp [bstr]
theorem str_sub {S : ByteArray} {l : List UInt8} (h : S = bstr l) (i j : Nat) : S.extract i j = bstr ((l.take j).drop i) := by
  subst h
  apply ByteArray.ext
  rw [ByteArray.data_extract]
  simp [bstr, List.drop_take]
theorem add_str {P : Program} {A B : ByteArray} {a b : List UInt8} (hA : A = bstr a) (hB : B = bstr b) (h : a.length + b.length ≤ 9223372036854775807) (w : World) : (Op.stringOp .add A B).run P w = .ok (.string (bstr (a ++ b))) w := by
  subst hA hB
  rw [run_string_add_sum (P := P) w (bstr a) (bstr b) h, bstr_app]
theorem str_cells (l : List UInt8) : Lib.strCells (bstr l) = l.map u8v := rfl
theorem bstr_inj {a b : List UInt8} (h : bstr a = bstr b) : a = b := by
  have := congrArg (fun x => x.data.toList) h
  simpa [bstr] using this
theorem str_ex (S : ByteArray) : ∃ l, S = bstr l := ⟨S.data.toList, by simp [bstr]⟩
/-- '[]byte(s)', read. -/
theorem rd_str {w : World} {S : ByteArray} {l : List UInt8} (h : S = bstr l) (cap : Nat) (e : TypeId) (fr : Nat × Nat) : BRd (w.drew.alloc (.cells (bytesRow S cap) e fr)) (some ⟨w.heap.size, 0, none⟩) l := by
  subst h
  refine .inr ⟨_, 0, rfl, by simp, fun k v hk => ?_⟩
  have hk' : k < l.length := by have := (List.getElem?_eq_some_iff.1 hk).1; simpa using this
  rw [Nat.zero_add]
  have := World.cell?_alloc_mark w.drew (bytesRow (bstr l) cap) e fr k
  rw [show w.drew.heap.size = w.heap.size from rfl] at this
  rw [this, bytesRow_at (bstr l) cap k (by simpa [bstr] using hk')]
  rw [← hk]
  simp [bstr, u8v, hk']
end Go.Proofs.Ytjpmfiicbokdcaa
