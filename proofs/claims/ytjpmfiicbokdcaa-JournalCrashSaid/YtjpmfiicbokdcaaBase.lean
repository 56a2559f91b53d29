/- General lemmas and notions of this prover's own, for the walks of a seat: nothing of the program is named here. -/
import Derived.WalkKit
import Derived.WalkLawsBesides
import Derived.WalkSpells
import Derived.Deep.QuietTactic
import Derived.BigQuiet
import Derived.ProofKit
import Derived.OpenShut
import Derived.ShutString
import Derived.ChangeOld
import Derived.Laws.IdiomStrings
import Derived.Lib.SlBytesConst
namespace Go.Proofs.Ytjpmfiicbokdcaa
open Go.ChangeShapes Go.WideShapes Go.ChangeAt Go.RowKit
set_option linter.unusedVariables false

theorem hide {p : Prop} (h : p) : Hid p := h
theorem unhide {p : Prop} (h : Hid p) : p := h
theorem ret_int {k : IntKind} {a b : Int} (h : a = b) : Ending.returned (.int k a) = .returned (.int k b) := by rw [h]
theorem ret_bool {a b : Bool} (h : a = b) : Ending.returned (.bool a) = .returned (.bool b) := by rw [h]

theorem bl_refl (w : World) : Below w.heap.size w w := Below.refl _ _
theorem bl_trans {a b c : World} (h : Below a.heap.size a b) (k : Below b.heap.size b c) : Below a.heap.size a c := h.trans (k.mono h.size)
theorem bl_alloc {a b : World} (h : Below a.heap.size a b) (o : Obj) : Below a.heap.size a (b.alloc o) := h.alloc h.size o
theorem bl_drew {a b : World} (h : Below a.heap.size a b) : Below a.heap.size a b.drew := h.drew
theorem bl_drewN {a b : World} (h : Below a.heap.size a b) (n : Nat) : Below a.heap.size a (b.drewN n) := ⟨h.os, h.tape, h.output, h.size, h.block⟩
theorem bl_grown {a b c : World} (h : Below a.heap.size a b) {row : Option Nat} (hg : b.grownBy c row) (hr : ∀ k, row = some k → a.heap.size ≤ k) : Below a.heap.size a c := h.grown hg h.size hr
theorem bl_set {a b : World} (h : Below a.heap.size a b) {p : Addr} (hp : a.heap.size ≤ p.block) (u : Value) : Below a.heap.size a (b.setCell p u) := h.setCell hp u

theorem bl_setRow {a b : World} (h : Below a.heap.size a b) {g : Nat} (hg : a.heap.size ≤ g) (cs : Array Value) : Below a.heap.size a (b.setRow g cs) :=
  h.trans ⟨rfl, rfl, rfl, by simp, fun k hk => setRow_other b g k cs (by omega)⟩
theorem i64_band (a b : Nat) (ha : a < 9223372036854775808) (hb : b < 9223372036854775808) : bits .and .i64 (a : Int) (b : Int) = ((a &&& b : Nat) : Int) := by
  have hx : a &&& b < 2 ^ 63 := Nat.and_lt_two_pow _ (by omega)
  have h : ∀ c : Nat, c < 9223372036854775808 → (BitVec.ofInt 64 (c : Int)).toNat = c := fun c hc => by
    rw [BitVec.ofInt_natCast, BitVec.toNat_ofNat]; exact Nat.mod_eq_of_lt (by omega)
  show IntKind.i64.wrap ((BitVec.ofInt 64 (a : Int) &&& BitVec.ofInt 64 (b : Int)).toNat : Int) = _
  rw [BitVec.toNat_and, h a ha, h b hb, IntKind.wrap_i64]
  omega
theorem i64_odd (a : Nat) (ha : a < 9223372036854775808) : bits .and .i64 (a : Int) 1 = ((a % 2 : Nat) : Int) := by
  have h := i64_band a 1 ha (by decide)
  rw [Nat.and_one_is_mod] at h
  exact h
theorem u8_bxor (a b : UInt8) : bits .xor .u8 (a.toNat : Int) (b.toNat : Int) = ((a ^^^ b).toNat : Int) := by
  have ha := a.toNat_lt
  have hb := b.toNat_lt
  rw [u8_xor _ _ (by omega) (by omega) (by omega) (by omega)]; simp
theorem u8_band (a b : UInt8) : bits .and .u8 (a.toNat : Int) (b.toNat : Int) = ((a &&& b).toNat : Int) := by
  have ha := a.toNat_lt
  have hb := b.toNat_lt
  rw [u8_and _ _ (by omega) (by omega) (by omega) (by omega)]; simp
theorem u8_bor (a b : UInt8) : bits .or .u8 (a.toNat : Int) (b.toNat : Int) = ((a ||| b).toNat : Int) := by
  have ha := a.toNat_lt
  have hb := b.toNat_lt
  rw [u8_or _ _ (by omega) (by omega) (by omega) (by omega)]; simp

/-- A byte as a value. -/
def u8v (c : UInt8) : Value := .int .u8 (c.toNat : Int)

/-- The cells 'xs' are read from address 'a' on (nothing is asked of the address where there is no cell). -/
def Rd (w : World) (a : Option Addr) (xs : List Value) : Prop :=
  xs = [] ∨ ∃ b o, a = some ⟨b, o, none⟩ ∧ b < w.heap.size ∧ ∀ k v, xs[k]? = some v → w.cell? ⟨b, o + k, none⟩ = some v
/-- The bytes 'l' are read from address 'a' on. -/
def BRd (w : World) (a : Option Addr) (l : List UInt8) : Prop := Rd w a (l.map u8v)

theorem Rd.nil (w : World) (a : Option Addr) : Rd w a [] := .inl rfl
theorem Rd.at_ {w : World} {a : Option Addr} {xs : List Value} (h : Rd w a xs) {k : Nat} {v : Value} (hk : xs[k]? = some v) :
    ∃ b o, a = some ⟨b, o, none⟩ ∧ b < w.heap.size ∧ w.cell? ⟨b, o + k, none⟩ = some v := by
  rcases h with rfl | ⟨b, o, rfl, hb, hc⟩
  · simp at hk
  · exact ⟨b, o, rfl, hb, hc k v hk⟩
theorem Rd.open_ {w : World} {a : Option Addr} {xs : List Value} (h : Rd w a xs) (hn : 0 < xs.length) :
    ∃ b o, a = some ⟨b, o, none⟩ ∧ b < w.heap.size ∧ ∀ k v, xs[k]? = some v → w.cell? ⟨b, o + k, none⟩ = some v := by
  rcases h with rfl | h
  · simp at hn
  · exact h
theorem Rd.take {w : World} {a : Option Addr} {xs : List Value} (h : Rd w a xs) (n : Nat) : Rd w a (xs.take n) := by
  rcases h with rfl | ⟨b, o, rfl, hb, hc⟩
  · exact .inl (by simp)
  · refine .inr ⟨b, o, rfl, hb, fun k v hv => hc k v ?_⟩
    rw [List.getElem?_take] at hv
    split at hv
    · exact hv
    · cases hv
theorem BRd.take {w : World} {a : Option Addr} {l : List UInt8} (h : BRd w a l) (n : Nat) : BRd w a (l.take n) := by
  have := Rd.take h n
  rwa [← List.map_take] at this
theorem Rd.keep {w w' : World} {a : Option Addr} {xs : List Value} (h : Rd w a xs) (hs : w.heap.size ≤ w'.heap.size)
    (hk : ∀ p : Addr, p.block < w.heap.size → w'.cell? p = w.cell? p) : Rd w' a xs := by
  rcases h with rfl | ⟨b, o, rfl, hb, hc⟩
  · exact .inl rfl
  · exact .inr ⟨b, o, rfl, by omega, fun k v hv => (hk _ hb).trans (hc k v hv)⟩
theorem Rd.below {w w' : World} {a : Option Addr} {xs : List Value} (h : Rd w a xs) (hb : Below w.heap.size w w') : Rd w' a xs :=
  h.keep hb.size fun _ hp => hb.cell hp
theorem Rd.alloc {w : World} {a : Option Addr} {xs : List Value} (h : Rd w a xs) (o : Obj) : Rd (w.alloc o) a xs :=
  h.below ((Below.refl _ _).alloc (Nat.le_refl _) o)
theorem Rd.drew {w : World} {a : Option Addr} {xs : List Value} (h : Rd w a xs) : Rd w.drew a xs := h
theorem BRd.at_ {w : World} {a : Option Addr} {l : List UInt8} (h : BRd w a l) {k : Nat} (hk : k < l.length) :
    ∃ b o c, a = some ⟨b, o, none⟩ ∧ b < w.heap.size ∧ l[k]? = some c ∧ w.cell? ⟨b, o + k, none⟩ = some (.int .u8 (c.toNat : Int)) := by
  obtain ⟨b, o, ha, hb, hc⟩ := Rd.at_ (k := k) (v := u8v l[k]) h (by simp [hk])
  exact ⟨b, o, l[k], ha, hb, by simp [hk], hc⟩
theorem u8s_one (l : List UInt8) : ∀ u ∈ l.map u8v, u.oneCell' = true := by
  intro u hu
  obtain ⟨_, _, rfl⟩ := List.mem_map.1 hu
  rfl
theorem Rd.cells {w : World} {a : Option Addr} {xs : List Value} (h : Rd w a xs) : ∀ b, a = some b → ∀ j u, xs[j]? = some u → w.cell? (b.add j) = some u := by
  intro b hb j u hu
  obtain ⟨b', o, ha, _, hc⟩ := h.at_ hu
  rw [hb] at ha
  injection ha with ha
  subst ha
  rw [Addr.add_lit]; exact hc
theorem BRd.below {w w' : World} {a : Option Addr} {l : List UInt8} (h : BRd w a l) (hb : Below w.heap.size w w') : BRd w' a l := Rd.below h hb
theorem BRd.alloc {w : World} {a : Option Addr} {l : List UInt8} (h : BRd w a l) (o : Obj) : BRd (w.alloc o) a l := Rd.alloc h o

/-- What is read of a row of the call's own. -/
theorem own_form {w : World} {base : Nat} {e : TypeId} {v : Value} {n : Nat} {xs : List Value} (h : w.ownsRow base e 1 v n xs) :
    n = xs.length ∧ ∃ a c, v = .slice a n c ∧ n ≤ c ∧ Rd w a xs ∧ (a = none → c = 0) ∧ (∀ b, a = some b → base ≤ b.block) := by
  refine ⟨by simpa using h.1.symm, ?_⟩
  rcases h.2 with ⟨rfl, rfl⟩ | ⟨g, cap, cur, rfl, hb, hg, hn, _, _, ht⟩
  · exact ⟨none, 0, rfl, Nat.le_refl _, by have := h.1; simp at this; rw [this]; exact .inl rfl, fun _ => rfl, fun b h => by cases h⟩
  · refine ⟨_, cap, rfl, hn, .inr ⟨g, 0, rfl, (Array.getElem?_eq_some_iff.1 hg).1, fun k v hk => ?_⟩, fun h => (by cases h), fun b hb' => (by injection hb' with e; subst e; exact hb)⟩
    have := h.cells (g := g) rfl k v hk
    rwa [Addr.add_lit] at this

/-- The string of some bytes. -/
def bstr (l : List UInt8) : ByteArray := ⟨l.toArray⟩
@[go_sem] theorem bstr_toList (l : List UInt8) : (bstr l).toList = l := by rw [ByteArray.toList_eq]; rfl
/-- 'string(b)'. -/
theorem run_bytes_str {P : Program} (w : World) (src dst e : TypeId) (a : Option Addr) (len cap : Nat) (l : List UInt8) (hs : P.underlying src = some (.slice e)) (he : P.underlying e = some (.int .u8)) (hd : P.underlying dst = some .string)
    (hl : len = l.length) (hr : BRd w a l) : (convert src dst (.slice a len cap)).run P w = .ok (.string (bstr l)) w := by
  subst hl
  rcases a with _ | x
  · rcases hr with h | ⟨b, o, h, _⟩
    · have hl : l = [] := by simpa using h
      subst hl
      exact run_convert_bytes_nil w src e hs he 0 cap dst hd
    · cases h
  · refine run_convert_bytes_back w src dst e x cap l hs he hd fun j hj => ?_
    exact Rd.cells hr x rfl j (u8v l[j]) (by simp [hj])
/-- The bytes of a literal, read. -/
theorem rd_lit (w : World) (C : Array Value) (e : TypeId) (fr : Nat × Nat) : Rd (w.alloc (.cells C e fr)) (some ⟨w.heap.size, 0, none⟩) C.toList := by
  refine .inr ⟨_, 0, rfl, by simp, fun k v h => ?_⟩
  rw [World.cell?_alloc_mark, Nat.zero_add]
  simpa using h

theorem made_one (v : Value) (h : v.cells = #[v]) (n : Nat) : (madeCells v.cells (n * 1)).toList = List.replicate n v := by
  rw [h, Nat.mul_one]
  apply List.ext_getElem
  · simp [madeCells]
  · intro i h1 h2
    simp [madeCells, Nat.mod_one]
theorem fill_step (W : List UInt8) (n k : Nat) (e : UInt8) (hn : n = W.length) (h : W[k]? = some e) :
    ((W.take k ++ List.replicate (n - k) 0).map u8v).set k (u8v e) = (W.take (k + 1) ++ List.replicate (n - (k + 1)) 0).map u8v := by
  have hk : k < W.length := (List.getElem?_eq_some_iff.1 h).1
  rw [← List.map_set]
  congr 1
  have h1 : (W.take k).length = k := by simp; omega
  rw [List.set_append_right _ _ (by omega), h1, Nat.sub_self, List.take_add_one, h, show n - k = (n - (k + 1)) + 1 by omega, List.replicate_succ]
  simp
/-- A store into a row of the call's own. -/
theorem own_at {w : World} {base g : Nat} {e : TypeId} {n c : Nat} {xs : List Value} (h : w.ownsRow base e 1 (.slice (some ⟨g, 0, none⟩) n c) n xs) {i : Nat} (hi : i < n) :
    (∃ v, xs[i]? = some v ∧ w.cell? ⟨g, i, none⟩ = some v) ∧ w.frozen? ⟨g, i, none⟩ = false := by
  have hx : i < xs.length := by have := h.1; omega
  rcases h.2 with ⟨h1, _⟩ | ⟨g', cap, cur, h1, hb, hg, hn, _, _, ht⟩
  · cases h1
  · injection h1 with h1 h2 h3
    injection h1 with h1
    injection h1 with h1
    subst h1
    refine ⟨⟨xs[i], by simp [hx], ?_⟩, by simp [World.frozen?, hg]⟩
    rw [cell_of_row w g i cur e (0, 0) hg]
    have : (cur.toList.take (n * 1))[i]? = some xs[i] := by rw [ht]; simp [hx]
    rw [List.getElem?_take] at this
    split at this
    · simpa using this
    · cases this
theorem own_set {w : World} {base g : Nat} {e : TypeId} {n c : Nat} {xs : List Value} (h : w.ownsRow base e 1 (.slice (some ⟨g, 0, none⟩) n c) n xs) {i : Nat} (hi : i < n) (u : Value) :
    (w.setCell ⟨g, i, none⟩ u).ownsRow base e 1 (.slice (some ⟨g, 0, none⟩) n c) n (xs.set i u) := by
  refine ⟨by simpa using h.1, ?_⟩
  rcases h.2 with ⟨h1, _⟩ | ⟨g', cap, cur, h1, hb, hg, hn, hm, hs, ht⟩
  · cases h1
  · injection h1 with h1 h2 h3
    injection h1 with h1
    injection h1 with h1
    subst h1
    refine .inr ⟨g, cap, cur.setIfInBounds i u, by rw [h3], hb, ?_, hn, hm, by simpa using hs, ?_⟩
    · simp [World.setCell, Array.getElem?_modify, hg]
    · rw [Array.toList_setIfInBounds, List.take_set, ht]
theorem own_below {w w' : World} {base : Nat} {e : TypeId} {v : Value} {n : Nat} {xs : List Value} (h : w.ownsRow base e 1 v n xs) (hb : Below w.heap.size w w') : w'.ownsRow base e 1 v n xs :=
  h.kept (row := none) ⟨hb.os, hb.tape, hb.output, hb.size, fun k hk _ => hb.block k hk⟩ (by cases v.ownBlock <;> simp)
theorem own_base {w : World} {base base' : Nat} {e : TypeId} {v : Value} {n : Nat} {xs : List Value} (h : w.ownsRow base e 1 v n xs) (hb : base' ≤ base) : w.ownsRow base' e 1 v n xs :=
  ⟨h.1, h.2.imp id fun ⟨g, cap, cur, h1, h2, h3⟩ => ⟨g, cap, cur, h1, by omega, h3⟩⟩

/-- What a law's frame hands on of a slice of integers that came in. -/
def IsRow (k : IntKind) (w : World) (a : Option Addr) (len cap : Nat) (zs : List Int) : Prop :=
  (a = none ∧ len = 0 ∧ cap = 0 ∧ zs = []) ∨
  ∃ x, a = some x ∧ len ≤ cap ∧ cap ≤ maxLen ∧ zs.length = cap ∧ (∀ i, i < zs.length → w.cell? (x.add i) = some (.int k (zs.getD i 0))) ∧ ∀ n ∈ zs, (Lit.int k n).wf = true

theorem lt_heap {w : World} {a : Addr} {v : Value} (h : w.cell? a = some v) : a.block < w.heap.size := World.block_lt_of_cell? w a h

/-- A slice of bytes that came in: a list of bytes, read. -/
theorem IsRow.bytes {w : World} {a : Option Addr} {len cap : Nat} {zs : List Int} (h : IsRow .u8 w a len cap zs) :
    ∃ l : List UInt8, l.length = len ∧ BRd w a l ∧ len ≤ cap ∧ cap ≤ maxLen ∧ (a = none → cap = 0) := by
  rcases h with ⟨rfl, rfl, rfl, rfl⟩ | ⟨x, rfl, hl, hm, hz, hc, hw⟩
  · exact ⟨[], rfl, .inl rfl, Nat.le_refl _, Nat.zero_le _, fun _ => rfl⟩
  · refine ⟨(zs.take len).map fun n => UInt8.ofNat n.toNat, by simp; omega, ?_, hl, hm, fun h => by cases h⟩
    rcases Nat.eq_zero_or_pos len with h0 | h0
    · subst h0; exact .inl (by simp)
    · have hx0 := hc 0 (by omega)
      have hsp : x.spot = none := by simpa [Addr.add] using World.cell?_spot hx0
      obtain ⟨b, o, sp⟩ := x
      subst hsp
      refine .inr ⟨b, o, rfl, lt_heap (a := (⟨b, o, none⟩ : Addr).add 0) hx0, fun k v hv => ?_⟩
      simp only [List.map_map, List.getElem?_map, Option.map_eq_some_iff, Function.comp] at hv
      obtain ⟨n, hn, rfl⟩ := hv
      have hk : k < zs.length := by
        have := (List.getElem?_eq_some_iff.1 hn).1
        simp at this; omega
      have h1 := hc k hk
      rw [Addr.add_lit] at h1
      rw [h1]
      have hnz : zs.getD k 0 = n := by
        rw [List.getElem?_take] at hn
        split at hn
        · simp [List.getD, hn]
        · cases hn
      rw [hnz]
      have hwn := hw n (by rw [← hnz]; simp [List.getD, hk])
      have hb := bounds_u8 hwn
      simp only [u8v]
      congr 2
      simp [UInt8.toNat_ofNat']
      omega
end Go.Proofs.Ytjpmfiicbokdcaa
