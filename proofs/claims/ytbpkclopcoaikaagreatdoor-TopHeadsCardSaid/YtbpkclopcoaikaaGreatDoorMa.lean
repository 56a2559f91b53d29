/- General lemmas and notions of this prover's own, for the walks of a seat: nothing of the program is named here. A region that draws its order, walked once in the order of the text, each slot under a constant or under a property that lasts while memory is only read and made anew; the operations of the tail come last, in their order. Nothing of the program is named here. append onto a slice of the call's own, whatever is appended: nil, empty or not. Nothing of the program is named here. Strings as lists of bytes, for the walks: nothing of the program is named here. append: the old slice is still read behind it. Nothing of the program is named. -/
import Derived.WalkKit
import Derived.WalkLawsBesides
import Derived.WalkSpells
import Derived.Deep.QuietTactic
import Derived.BigQuiet
import Derived.ProofKit
import Derived.OpenShut
import Derived.ShutString
import Derived.ChangeOld
import Derived.Laws.IdiomStrings
import Derived.Lib.SlBytesConst
import Derived.Still
import Derived.Maps.AppendAt
import Derived.Laws.CopyOwn
import Derived.Laws.MakeOwn
import Derived.Laws.Concat
import Derived.Lib.AppendStr
import Derived.ArgAppend
namespace Go.Proofs.YtbpkclopcoaikaaGreatDoor
open Go.ChangeShapes Go.WideShapes Go.ChangeAt Go.RowKit
set_option linter.unusedVariables false

theorem hide {p : Prop} (h : p) : Hid p := h
theorem unhide {p : Prop} (h : Hid p) : p := h
theorem ret_int {k : IntKind} {a b : Int} (h : a = b) : Ending.returned (.int k a) = .returned (.int k b) := by rw [h]
theorem ret_bool {a b : Bool} (h : a = b) : Ending.returned (.bool a) = .returned (.bool b) := by rw [h]

theorem bl_refl (w : World) : Below w.heap.size w w := Below.refl _ _
theorem bl_trans {a b c : World} (h : Below a.heap.size a b) (k : Below b.heap.size b c) : Below a.heap.size a c := h.trans (k.mono h.size)
theorem bl_alloc {a b : World} (h : Below a.heap.size a b) (o : Obj) : Below a.heap.size a (b.alloc o) := h.alloc h.size o
theorem bl_drew {a b : World} (h : Below a.heap.size a b) : Below a.heap.size a b.drew := h.drew
theorem bl_drewN {a b : World} (h : Below a.heap.size a b) (n : Nat) : Below a.heap.size a (b.drewN n) := ⟨h.os, h.tape, h.output, h.size, h.block⟩
theorem bl_grown {a b c : World} (h : Below a.heap.size a b) {row : Option Nat} (hg : b.grownBy c row) (hr : ∀ k, row = some k → a.heap.size ≤ k) : Below a.heap.size a c := h.grown hg h.size hr
theorem bl_set {a b : World} (h : Below a.heap.size a b) {p : Addr} (hp : a.heap.size ≤ p.block) (u : Value) : Below a.heap.size a (b.setCell p u) := h.setCell hp u

theorem bl_setRow {a b : World} (h : Below a.heap.size a b) {g : Nat} (hg : a.heap.size ≤ g) (cs : Array Value) : Below a.heap.size a (b.setRow g cs) :=
  h.trans ⟨rfl, rfl, rfl, by simp, fun k hk => setRow_other b g k cs (by omega)⟩
theorem i64_band (a b : Nat) (ha : a < 9223372036854775808) (hb : b < 9223372036854775808) : bits .and .i64 (a : Int) (b : Int) = ((a &&& b : Nat) : Int) := by
  have hx : a &&& b < 2 ^ 63 := Nat.and_lt_two_pow _ (by omega)
  have h : ∀ c : Nat, c < 9223372036854775808 → (BitVec.ofInt 64 (c : Int)).toNat = c := fun c hc => by
    rw [BitVec.ofInt_natCast, BitVec.toNat_ofNat]; exact Nat.mod_eq_of_lt (by omega)
  show IntKind.i64.wrap ((BitVec.ofInt 64 (a : Int) &&& BitVec.ofInt 64 (b : Int)).toNat : Int) = _
  rw [BitVec.toNat_and, h a ha, h b hb, IntKind.wrap_i64]
  omega
theorem i64_odd (a : Nat) (ha : a < 9223372036854775808) : bits .and .i64 (a : Int) 1 = ((a % 2 : Nat) : Int) := by
  have h := i64_band a 1 ha (by decide)
  rw [Nat.and_one_is_mod] at h
  exact h
theorem u8_bxor (a b : UInt8) : bits .xor .u8 (a.toNat : Int) (b.toNat : Int) = ((a ^^^ b).toNat : Int) := by
  have ha := a.toNat_lt
  have hb := b.toNat_lt
  rw [u8_xor _ _ (by omega) (by omega) (by omega) (by omega)]; simp
theorem u8_band (a b : UInt8) : bits .and .u8 (a.toNat : Int) (b.toNat : Int) = ((a &&& b).toNat : Int) := by
  have ha := a.toNat_lt
  have hb := b.toNat_lt
  rw [u8_and _ _ (by omega) (by omega) (by omega) (by omega)]; simp
theorem u8_bor (a b : UInt8) : bits .or .u8 (a.toNat : Int) (b.toNat : Int) = ((a ||| b).toNat : Int) := by
  have ha := a.toNat_lt
  have hb := b.toNat_lt
  rw [u8_or _ _ (by omega) (by omega) (by omega) (by omega)]; simp

/-- A byte as a value. -/
def u8v (c : UInt8) : Value := .int .u8 (c.toNat : Int)

/-- The cells 'xs' are read from address 'a' on (nothing is asked of the address where there is no cell). -/
def Rd (w : World) (a : Option Addr) (xs : List Value) : Prop :=
  xs = [] ∨ ∃ b o, a = some ⟨b, o, none⟩ ∧ b < w.heap.size ∧ ∀ k v, xs[k]? = some v → w.cell? ⟨b, o + k, none⟩ = some v
/-- The bytes 'l' are read from address 'a' on. -/
def BRd (w : World) (a : Option Addr) (l : List UInt8) : Prop := Rd w a (l.map u8v)

theorem Rd.nil (w : World) (a : Option Addr) : Rd w a [] := .inl rfl
theorem Rd.at_ {w : World} {a : Option Addr} {xs : List Value} (h : Rd w a xs) {k : Nat} {v : Value} (hk : xs[k]? = some v) :
    ∃ b o, a = some ⟨b, o, none⟩ ∧ b < w.heap.size ∧ w.cell? ⟨b, o + k, none⟩ = some v := by
  rcases h with rfl | ⟨b, o, rfl, hb, hc⟩
  · simp at hk
  · exact ⟨b, o, rfl, hb, hc k v hk⟩
theorem Rd.open_ {w : World} {a : Option Addr} {xs : List Value} (h : Rd w a xs) (hn : 0 < xs.length) :
    ∃ b o, a = some ⟨b, o, none⟩ ∧ b < w.heap.size ∧ ∀ k v, xs[k]? = some v → w.cell? ⟨b, o + k, none⟩ = some v := by
  rcases h with rfl | h
  · simp at hn
  · exact h
theorem Rd.take {w : World} {a : Option Addr} {xs : List Value} (h : Rd w a xs) (n : Nat) : Rd w a (xs.take n) := by
  rcases h with rfl | ⟨b, o, rfl, hb, hc⟩
  · exact .inl (by simp)
  · refine .inr ⟨b, o, rfl, hb, fun k v hv => hc k v ?_⟩
    rw [List.getElem?_take] at hv
    split at hv
    · exact hv
    · cases hv
theorem BRd.take {w : World} {a : Option Addr} {l : List UInt8} (h : BRd w a l) (n : Nat) : BRd w a (l.take n) := by
  have := Rd.take h n
  rwa [← List.map_take] at this
theorem Rd.keep {w w' : World} {a : Option Addr} {xs : List Value} (h : Rd w a xs) (hs : w.heap.size ≤ w'.heap.size)
    (hk : ∀ p : Addr, p.block < w.heap.size → w'.cell? p = w.cell? p) : Rd w' a xs := by
  rcases h with rfl | ⟨b, o, rfl, hb, hc⟩
  · exact .inl rfl
  · exact .inr ⟨b, o, rfl, by omega, fun k v hv => (hk _ hb).trans (hc k v hv)⟩
theorem Rd.below {w w' : World} {a : Option Addr} {xs : List Value} (h : Rd w a xs) (hb : Below w.heap.size w w') : Rd w' a xs :=
  h.keep hb.size fun _ hp => hb.cell hp
theorem Rd.alloc {w : World} {a : Option Addr} {xs : List Value} (h : Rd w a xs) (o : Obj) : Rd (w.alloc o) a xs :=
  h.below ((Below.refl _ _).alloc (Nat.le_refl _) o)
theorem Rd.drew {w : World} {a : Option Addr} {xs : List Value} (h : Rd w a xs) : Rd w.drew a xs := h
theorem BRd.at_ {w : World} {a : Option Addr} {l : List UInt8} (h : BRd w a l) {k : Nat} (hk : k < l.length) :
    ∃ b o c, a = some ⟨b, o, none⟩ ∧ b < w.heap.size ∧ l[k]? = some c ∧ w.cell? ⟨b, o + k, none⟩ = some (.int .u8 (c.toNat : Int)) := by
  obtain ⟨b, o, ha, hb, hc⟩ := Rd.at_ (k := k) (v := u8v l[k]) h (by simp [hk])
  exact ⟨b, o, l[k], ha, hb, by simp [hk], hc⟩
theorem u8s_one (l : List UInt8) : ∀ u ∈ l.map u8v, u.oneCell' = true := by
  intro u hu
  obtain ⟨_, _, rfl⟩ := List.mem_map.1 hu
  rfl
theorem Rd.cells {w : World} {a : Option Addr} {xs : List Value} (h : Rd w a xs) : ∀ b, a = some b → ∀ j u, xs[j]? = some u → w.cell? (b.add j) = some u := by
  intro b hb j u hu
  obtain ⟨b', o, ha, _, hc⟩ := h.at_ hu
  rw [hb] at ha
  injection ha with ha
  subst ha
  rw [Addr.add_lit]; exact hc
theorem BRd.below {w w' : World} {a : Option Addr} {l : List UInt8} (h : BRd w a l) (hb : Below w.heap.size w w') : BRd w' a l := Rd.below h hb
theorem BRd.alloc {w : World} {a : Option Addr} {l : List UInt8} (h : BRd w a l) (o : Obj) : BRd (w.alloc o) a l := Rd.alloc h o

/-- What is read of a row of the call's own. -/
theorem own_form {w : World} {base : Nat} {e : TypeId} {v : Value} {n : Nat} {xs : List Value} (h : w.ownsRow base e 1 v n xs) :
    n = xs.length ∧ ∃ a c, v = .slice a n c ∧ n ≤ c ∧ Rd w a xs ∧ (a = none → c = 0) ∧ (∀ b, a = some b → base ≤ b.block) := by
  refine ⟨by simpa using h.1.symm, ?_⟩
  rcases h.2 with ⟨rfl, rfl⟩ | ⟨g, cap, cur, rfl, hb, hg, hn, _, _, ht⟩
  · exact ⟨none, 0, rfl, Nat.le_refl _, by have := h.1; simp at this; rw [this]; exact .inl rfl, fun _ => rfl, fun b h => by cases h⟩
  · refine ⟨_, cap, rfl, hn, .inr ⟨g, 0, rfl, (Array.getElem?_eq_some_iff.1 hg).1, fun k v hk => ?_⟩, fun h => (by cases h), fun b hb' => (by injection hb' with e; subst e; exact hb)⟩
    have := h.cells (g := g) rfl k v hk
    rwa [Addr.add_lit] at this

/-- The string of some bytes. -/
def bstr (l : List UInt8) : ByteArray := ⟨l.toArray⟩
@[go_sem] theorem bstr_toList (l : List UInt8) : (bstr l).toList = l := by rw [ByteArray.toList_eq]; rfl
/-- 'string(b)'. -/
theorem run_bytes_str {P : Program} (w : World) (src dst e : TypeId) (a : Option Addr) (len cap : Nat) (l : List UInt8) (hs : P.underlying src = some (.slice e)) (he : P.underlying e = some (.int .u8)) (hd : P.underlying dst = some .string)
    (hl : len = l.length) (hr : BRd w a l) : (convert src dst (.slice a len cap)).run P w = .ok (.string (bstr l)) w := by
  subst hl
  rcases a with _ | x
  · rcases hr with h | ⟨b, o, h, _⟩
    · have hl : l = [] := by simpa using h
      subst hl
      exact run_convert_bytes_nil w src e hs he 0 cap dst hd
    · cases h
  · refine run_convert_bytes_back w src dst e x cap l hs he hd fun j hj => ?_
    exact Rd.cells hr x rfl j (u8v l[j]) (by simp [hj])
/-- The bytes of a literal, read. -/
theorem rd_lit (w : World) (C : Array Value) (e : TypeId) (fr : Nat × Nat) : Rd (w.alloc (.cells C e fr)) (some ⟨w.heap.size, 0, none⟩) C.toList := by
  refine .inr ⟨_, 0, rfl, by simp, fun k v h => ?_⟩
  rw [World.cell?_alloc_mark, Nat.zero_add]
  simpa using h

theorem made_one (v : Value) (h : v.cells = #[v]) (n : Nat) : (madeCells v.cells (n * 1)).toList = List.replicate n v := by
  rw [h, Nat.mul_one]
  apply List.ext_getElem
  · simp [madeCells]
  · intro i h1 h2
    simp [madeCells, Nat.mod_one]
theorem fill_step (W : List UInt8) (n k : Nat) (e : UInt8) (hn : n = W.length) (h : W[k]? = some e) :
    ((W.take k ++ List.replicate (n - k) 0).map u8v).set k (u8v e) = (W.take (k + 1) ++ List.replicate (n - (k + 1)) 0).map u8v := by
  have hk : k < W.length := (List.getElem?_eq_some_iff.1 h).1
  rw [← List.map_set]
  congr 1
  have h1 : (W.take k).length = k := by simp; omega
  rw [List.set_append_right _ _ (by omega), h1, Nat.sub_self, List.take_add_one, h, show n - k = (n - (k + 1)) + 1 by omega, List.replicate_succ]
  simp
/-- A store into a row of the call's own. -/
theorem own_at {w : World} {base g : Nat} {e : TypeId} {n c : Nat} {xs : List Value} (h : w.ownsRow base e 1 (.slice (some ⟨g, 0, none⟩) n c) n xs) {i : Nat} (hi : i < n) :
    (∃ v, xs[i]? = some v ∧ w.cell? ⟨g, i, none⟩ = some v) ∧ w.frozen? ⟨g, i, none⟩ = false := by
  have hx : i < xs.length := by have := h.1; omega
  rcases h.2 with ⟨h1, _⟩ | ⟨g', cap, cur, h1, hb, hg, hn, _, _, ht⟩
  · cases h1
  · injection h1 with h1 h2 h3
    injection h1 with h1
    injection h1 with h1
    subst h1
    refine ⟨⟨xs[i], by simp [hx], ?_⟩, by simp [World.frozen?, hg]⟩
    rw [cell_of_row w g i cur e (0, 0) hg]
    have : (cur.toList.take (n * 1))[i]? = some xs[i] := by rw [ht]; simp [hx]
    rw [List.getElem?_take] at this
    split at this
    · simpa using this
    · cases this
theorem own_set {w : World} {base g : Nat} {e : TypeId} {n c : Nat} {xs : List Value} (h : w.ownsRow base e 1 (.slice (some ⟨g, 0, none⟩) n c) n xs) {i : Nat} (hi : i < n) (u : Value) :
    (w.setCell ⟨g, i, none⟩ u).ownsRow base e 1 (.slice (some ⟨g, 0, none⟩) n c) n (xs.set i u) := by
  refine ⟨by simpa using h.1, ?_⟩
  rcases h.2 with ⟨h1, _⟩ | ⟨g', cap, cur, h1, hb, hg, hn, hm, hs, ht⟩
  · cases h1
  · injection h1 with h1 h2 h3
    injection h1 with h1
    injection h1 with h1
    subst h1
    refine .inr ⟨g, cap, cur.setIfInBounds i u, by rw [h3], hb, ?_, hn, hm, by simpa using hs, ?_⟩
    · simp [World.setCell, Array.getElem?_modify, hg]
    · rw [Array.toList_setIfInBounds, List.take_set, ht]
theorem own_below {w w' : World} {base : Nat} {e : TypeId} {v : Value} {n : Nat} {xs : List Value} (h : w.ownsRow base e 1 v n xs) (hb : Below w.heap.size w w') : w'.ownsRow base e 1 v n xs :=
  h.kept (row := none) ⟨hb.os, hb.tape, hb.output, hb.size, fun k hk _ => hb.block k hk⟩ (by cases v.ownBlock <;> simp)
theorem own_base {w : World} {base base' : Nat} {e : TypeId} {v : Value} {n : Nat} {xs : List Value} (h : w.ownsRow base e 1 v n xs) (hb : base' ≤ base) : w.ownsRow base' e 1 v n xs :=
  ⟨h.1, h.2.imp id fun ⟨g, cap, cur, h1, h2, h3⟩ => ⟨g, cap, cur, h1, by omega, h3⟩⟩

/-- What a law's frame hands on of a slice of integers that came in. -/
def IsRow (k : IntKind) (w : World) (a : Option Addr) (len cap : Nat) (zs : List Int) : Prop :=
  (a = none ∧ len = 0 ∧ cap = 0 ∧ zs = []) ∨
  ∃ x, a = some x ∧ len ≤ cap ∧ cap ≤ maxLen ∧ zs.length = cap ∧ (∀ i, i < zs.length → w.cell? (x.add i) = some (.int k (zs.getD i 0))) ∧ ∀ n ∈ zs, (Lit.int k n).wf = true

theorem lt_heap {w : World} {a : Addr} {v : Value} (h : w.cell? a = some v) : a.block < w.heap.size := World.block_lt_of_cell? w a h

/-- A slice of bytes that came in: a list of bytes, read. -/
theorem IsRow.bytes {w : World} {a : Option Addr} {len cap : Nat} {zs : List Int} (h : IsRow .u8 w a len cap zs) :
    ∃ l : List UInt8, l.length = len ∧ BRd w a l ∧ len ≤ cap ∧ cap ≤ maxLen ∧ (a = none → cap = 0) := by
  rcases h with ⟨rfl, rfl, rfl, rfl⟩ | ⟨x, rfl, hl, hm, hz, hc, hw⟩
  · exact ⟨[], rfl, .inl rfl, Nat.le_refl _, Nat.zero_le _, fun _ => rfl⟩
  · refine ⟨(zs.take len).map fun n => UInt8.ofNat n.toNat, by simp; omega, ?_, hl, hm, fun h => by cases h⟩
    rcases Nat.eq_zero_or_pos len with h0 | h0
    · subst h0; exact .inl (by simp)
    · have hx0 := hc 0 (by omega)
      have hsp : x.spot = none := by simpa [Addr.add] using World.cell?_spot hx0
      obtain ⟨b, o, sp⟩ := x
      subst hsp
      refine .inr ⟨b, o, rfl, lt_heap (a := (⟨b, o, none⟩ : Addr).add 0) hx0, fun k v hv => ?_⟩
      simp only [List.map_map, List.getElem?_map, Option.map_eq_some_iff, Function.comp] at hv
      obtain ⟨n, hn, rfl⟩ := hv
      have hk : k < zs.length := by
        have := (List.getElem?_eq_some_iff.1 hn).1
        simp at this; omega
      have h1 := hc k hk
      rw [Addr.add_lit] at h1
      rw [h1]
      have hnz : zs.getD k 0 = n := by
        rw [List.getElem?_take] at hn
        split at hn
        · simp [List.getD, hn]
        · cases hn
      rw [hnz]
      have hwn := hw n (by rw [← hnz]; simp [List.getD, hk])
      have hb := bounds_u8 hwn
      simp only [u8v]
      congr 2
      simp [UInt8.toNat_ofNat']
      omega
end Go.Proofs.YtbpkclopcoaikaaGreatDoor
namespace Go.Proofs.YtbpkclopcoaikaaGreatDoor
open Go.RowKit
set_option linter.unusedVariables false
set_option linter.unusedSimpArgs false

/-- What is known of a slot. -/
inductive Slot where
  | c (v : Value)
  | p (R : Value → World → Prop)
def Slot.holds : Slot → Value → World → Prop
  | .c v, u, _ => u = v
  | .p R, u, w => R u w
/-- It lasts. -/
def Stab (s : Slot) : Prop := ∀ u w w', Below w.heap.size w w' → s.holds u w → s.holds u w'
theorem stab_c (v : Value) : Stab (.c v) := fun _ _ _ _ h => h

def upS (P : Program) (w : World) (s : Slot) : Result Next → Prop
  | .ok (.value u) w' => Below w.heap.size w w' ∧ s.holds u w'
  | .ok .skip w' => Below w.heap.size w w' ∧ s.holds undef w'
  | .ok (.enter f args) w' => Calls P f args w' fun e w'' => ∃ v, e = .returned v ∧ Below w.heap.size w w'' ∧ s.holds v w''
  | _ => False
def opndS (F : List Slot) : Operand → Slot
  | .tmp t => F.getD t (.c undef)
  | .const v => .c v
  | .global g => .c (.pointer (some ⟨g, 0, none⟩))
  | .func f => .c (.func (.func f) #[] #[])
def opS (P : Program) (C : World → Prop) (F : List Slot) (o : Oper) (s : Slot) : Prop :=
  ∀ (ev : Operand → Value) (w : World), C w → (∀ x ∈ o.op.operands.toList, (opndS F x).holds (ev x) w) → upS P w s ((execOp ev o).run P w)
def guardS (ops : Array Oper) (F : List Slot) (j : Nat) (b : Bool) : Prop := ∃ t, (ops[j]?).bind (·.dst) = some t ∧ F[t]? = some (.c (.bool b))
def guardU (ops : Array Oper) (F : List Slot) (j : Nat) : Prop := ∃ t, (ops[j]?).bind (·.dst) = some t ∧ F[t]? = some (.c undef)
def stS (P : Program) (ops : Array Oper) (C : World → Prop) (F : List Slot) (o : Oper) (s : Slot) : Prop :=
  match o.guard with
  | none => opS P C F o s
  | some (j, want) => (∃ b, guardS ops F j b ∧ (if b = want then opS P C F o s else s = .c undef)) ∨ (guardU ops F j ∧ s = .c undef)
def setS (F : List Slot) (d : Option Tmp) (s : Slot) : List Slot := match d with | some d => F.set d s | none => F
def wpS (P : Program) (ops : Array Oper) (C : World → Prop) (Q : List Slot → Prop) : List Oper → List Slot → Prop
  | [], F => Q F
  | o :: rest, F => ∃ s, Stab s ∧ stS P ops C F o s ∧ wpS P ops C Q rest (setS F o.dst s)

attribute [go_sem] Slot.holds
@[go_sem] theorem upS_value (P : Program) (w w' : World) (s : Slot) (u : Value) : upS P w s (.ok (.value u) w') = (Below w.heap.size w w' ∧ s.holds u w') := rfl
@[go_sem] theorem upS_same (P : Program) (w : World) (s : Slot) (u : Value) : upS P w s (.ok (.value u) w) = s.holds u w := by simp [upS, Below.refl]
@[go_sem] theorem upS_enter (P : Program) (w w' : World) (s : Slot) (f : FuncId) (args : Array Value) : upS P w s (.ok (.enter f args) w') = Calls P f args w' fun e w'' => ∃ v, e = .returned v ∧ Below w.heap.size w w'' ∧ s.holds v w'' := rfl
section
variable {P : Program} {ops : Array Oper} {C : World → Prop} {Q : List Slot → Prop} {o : Oper} {rest : List Oper} {F : List Slot}
theorem wpS_nil (h : Q F) : wpS P ops C Q [] F := h
theorem wpS_c {v : Value} (hg : o.guard = none) (h : opS P C F o (.c v)) (hr : wpS P ops C Q rest (setS F o.dst (.c v))) : wpS P ops C Q (o :: rest) F :=
  ⟨.c v, stab_c v, by unfold stS; rw [hg]; exact h, hr⟩
theorem wpS_p {R : Value → World → Prop} (hg : o.guard = none) (hs : Stab (.p R)) (h : opS P C F o (.p R)) (hr : wpS P ops C Q rest (setS F o.dst (.p R))) : wpS P ops C Q (o :: rest) F :=
  ⟨.p R, hs, by unfold stS; rw [hg]; exact h, hr⟩
theorem wpS_gc {v : Value} {j : Nat} {b : Bool} (hg : o.guard = some (j, b)) (hb : guardS ops F j b) (h : opS P C F o (.c v)) (hr : wpS P ops C Q rest (setS F o.dst (.c v))) : wpS P ops C Q (o :: rest) F :=
  ⟨.c v, stab_c v, by unfold stS; rw [hg]; exact .inl ⟨b, hb, by rw [if_pos rfl]; exact h⟩, hr⟩
theorem wpS_gp {R : Value → World → Prop} {j : Nat} {b : Bool} (hg : o.guard = some (j, b)) (hs : Stab (.p R)) (hb : guardS ops F j b) (h : opS P C F o (.p R)) (hr : wpS P ops C Q rest (setS F o.dst (.p R))) : wpS P ops C Q (o :: rest) F :=
  ⟨.p R, hs, by unfold stS; rw [hg]; exact .inl ⟨b, hb, by rw [if_pos rfl]; exact h⟩, hr⟩
theorem wpS_skip {j : Nat} {b : Bool} (hg : o.guard = some (j, !b)) (hb : guardS ops F j b) (hr : wpS P ops C Q rest (setS F o.dst (.c undef))) : wpS P ops C Q (o :: rest) F :=
  ⟨.c undef, stab_c _, by unfold stS; rw [hg]; exact .inl ⟨b, hb, by rw [if_neg (by cases b <;> simp)]⟩, hr⟩
/-- An operation whose guard was skipped itself. -/
theorem wpS_skipU {j : Nat} {b : Bool} (hg : o.guard = some (j, b)) (hb : guardU ops F j) (hr : wpS P ops C Q rest (setS F o.dst (.c undef))) : wpS P ops C Q (o :: rest) F :=
  ⟨.c undef, stab_c _, by unfold stS; rw [hg]; exact .inr ⟨hb, rfl⟩, hr⟩
end

theorem guardU_mk {ops : Array Oper} {F : List Slot} {j t : Nat} (h1 : (ops[j]?).bind (·.dst) = some t) (h2 : F[t]? = some (.c undef)) : guardU ops F j := ⟨t, h1, h2⟩
theorem guard_mk {ops : Array Oper} {F : List Slot} {j t : Nat} {b : Bool} (h1 : (ops[j]?).bind (·.dst) = some t) (h2 : F[t]? = some (.c (.bool b))) : guardS ops F j b := ⟨t, h1, h2⟩
/-- What is behind the walk: all slots written out. -/
def closeS (w : World) : List Slot → (List Value → Prop) → Prop
  | [], K => K []
  | .c v :: F, K => closeS w F fun l => K (v :: l)
  | .p R :: F, K => ∀ v, R v w → closeS w F fun l => K (v :: l)
theorem closeS_apply (w : World) : ∀ (F : List Slot) (K : List Value → Prop) (l : List Value), closeS w F K → l.length = F.length → (∀ (t : Nat) (s : Slot) (u : Value), F[t]? = some s → l[t]? = some u → s.holds u w) → K l
  | [], K, l, h, hl, _ => by
    obtain rfl : l = [] := List.eq_nil_of_length_eq_zero hl
    exact h
  | .c v :: F, K, l, h, hl, hh => by
    match l, hl, hh with
    | u :: l, hl, hh =>
      have e : u = v := hh 0 (.c v) u rfl rfl
      subst e
      exact closeS_apply w F _ l h (by simpa using hl) (fun t s x h1 h2 => hh (t + 1) s x (by simpa using h1) (by simpa using h2))
  | .p R :: F, K, l, h, hl, hh => by
    match l, hl, hh with
    | u :: l, hl, hh =>
      have e : R u w := hh 0 (.p R) u rfl rfl
      exact closeS_apply w F _ l (h u e) (by simpa using hl) (fun t s x h1 h2 => hh (t + 1) s x (by simpa using h1) (by simpa using h2))

/-- A frame written out, as slots. -/
def slotsOfList (l : List Value) : List Slot := l.map Slot.c

/-! ### The order -/
/-- For each operation the operations that it waits for, as a mask. -/
def masksGo (ops : List Oper) (acc : List Nat) : List Nat :=
  match ops with
  | [] => acc
  | o :: rest => masksGo rest (acc ++ [o.after.foldl (fun s e => if Region.binds .any e then s ||| (1 <<< e.on) ||| acc.getD e.on 0 else s) 0])
def masks (ops : List Oper) : List Nat := masksGo ops []

/-- The masks hold: each bit of operation j's mask is an edge of its own, or a bit of the mask of such an edge; and edges lead back. -/
def maskOkB (ops : Array Oper) (m : List Nat) : Bool :=
  (List.range ops.size).all fun j =>
    match ops[j]? with
    | none => true
    | some o => (o.after.all fun e => !Region.binds .any e || decide (e.on < j)) &&
      ((List.range ops.size).all fun i => !(m.getD j 0).testBit i || o.after.any fun e => Region.binds .any e && (e.on == i || (m.getD e.on 0).testBit i))

/-- Two operations of which one writes what the other names stand in order; the first k come ahead of the tail; the tail stands in order. -/
def ordB (ops : Array Oper) (m : List Nat) (k : Nat) : Bool :=
  (List.range ops.size).all fun j => (List.range j).all fun i => (m.getD j 0).testBit i ||
    (decide (j < k) && (match ops[i]?, ops[j]? with | some x, some y => x.apart ops y | _, _ => true))
def regB (ops : Array Oper) (k : Nat) : Bool := let m := masks ops.toList; maskOkB ops m && ordB ops m k && decide (k ≤ ops.size)

section
variable {P : Program} {ops : Array Oper} {k : Nat}

/-- Closed under the edges. -/
def Closed (ops : Array Oper) (L : Array Bool) : Prop := ∀ j oj, ops[j]? = some oj → L.getD j false = true → ∀ e ∈ oj.after, Region.binds .any e = true → L.getD e.on false = true

theorem closed_mask {m : List Nat} {L : Array Bool} (hm : maskOkB ops m = true) (hc : Closed ops L) : ∀ (n j i : Nat), j ≤ n → j < ops.size → i < ops.size → (m.getD j 0).testBit i = true → L.getD j false = true → L.getD i false = true := by
  intro n
  induction n with
  | zero =>
    intro j i hj hjs his hb hl
    obtain rfl : j = 0 := by omega
    have h1 := List.all_eq_true.1 hm 0 (List.mem_range.2 hjs)
    have ho : ops[0]? = some ops[0] := by simp [hjs]
    rw [ho] at h1
    simp only [Bool.and_eq_true] at h1
    have h2 := List.all_eq_true.1 h1.2 i (List.mem_range.2 his)
    rw [hb] at h2
    simp only [Bool.not_true, Bool.false_or] at h2
    obtain ⟨e, he, h3⟩ := Array.any_eq_true'.1 h2
    simp only [Bool.and_eq_true] at h3
    have h4 := Array.all_eq_true'.1 h1.1 e he
    rw [h3.1] at h4
    simp at h4
  | succ n ih =>
    intro j i hj hjs his hb hl
    have h1 := List.all_eq_true.1 hm j (List.mem_range.2 hjs)
    have ho : ops[j]? = some ops[j] := by simp [hjs]
    rw [ho] at h1
    simp only [Bool.and_eq_true] at h1
    have h2 := List.all_eq_true.1 h1.2 i (List.mem_range.2 his)
    rw [hb] at h2
    simp only [Bool.not_true, Bool.false_or] at h2
    obtain ⟨e, he, h3⟩ := Array.any_eq_true'.1 h2
    simp only [Bool.and_eq_true, Bool.or_eq_true, beq_iff_eq] at h3
    have hle := hc j _ ho hl e he h3.1
    rcases h3.2 with h5 | h5
    · rw [← h5]; exact hle
    · have h4 := Array.all_eq_true'.1 h1.1 e he
      rw [h3.1] at h4
      simp at h4
      exact ih e.on i (by omega) (by omega) his h5 hle
end

/-! ### What a slot bears when some operations have come up -/
def cur : List Oper → (Nat → Slot) → (Nat → Bool) → (Tmp → Slot) → Tmp → Slot
  | [], _, _, f => f
  | o :: os, S, L, f => cur os (fun i => S (i + 1)) (fun i => L (i + 1)) fun t => if L 0 = true ∧ o.dst = some t then S 0 else f t
theorem cur_congr : ∀ (os : List Oper) (S : Nat → Slot) (L L' : Nat → Bool) (f f' : Tmp → Slot) (t : Tmp), f t = f' t →
    (∀ i o, os[i]? = some o → o.dst = some t → L i = L' i) → cur os S L f t = cur os S L' f' t
  | [], _, _, _, _, _, _, hf, _ => hf
  | o :: os, S, L, L', f, f', t, hf, h => by
    unfold cur
    refine cur_congr os _ _ _ _ _ t ?_ fun i o' ho hd => h (i + 1) o' (by simpa using ho) hd
    by_cases hd : o.dst = some t
    · have := h 0 o rfl hd
      simp only [hd, and_true, this, hf]
    · simp only [hd, and_false, if_false, hf]
theorem cur_none (os : List Oper) (S : Nat → Slot) (f : Tmp → Slot) (t : Tmp) : cur os S (fun _ => false) f t = f t := by
  induction os generalizing S f with
  | nil => rfl
  | cons o os ih =>
    unfold cur
    rw [ih]
    simp
theorem cur_take : ∀ (os : List Oper) (S : Nat → Slot) (j : Nat) (f : Tmp → Slot) (t : Tmp), cur os S (fun i => decide (i < j)) f t = cur (os.take j) S (fun _ => true) f t
  | [], _, _, _, _ => by simp [cur]
  | o :: os, S, 0, f, t => by
    have h : (fun i => decide (i < 0)) = fun _ : Nat => false := by funext i; simp
    rw [h, cur_none]; rfl
  | o :: os, S, j + 1, f, t => by
    rw [List.take_succ_cons]
    unfold cur
    have h : (fun i => decide (i + 1 < j + 1)) = fun i : Nat => decide (i < j) := by funext i; simp
    simp only [h]
    rw [cur_take os _ j]
    simp
theorem cur_last : ∀ (os : List Oper) (S : Nat → Slot) (L : Nat → Bool) (f : Tmp → Slot) (t : Tmp) (i : Nat) (o : Oper), os[i]? = some o → o.dst = some t → L i = true →
    (∀ j o', i < j → os[j]? = some o' → o'.dst = some t → L j = false) → cur os S L f t = S i
  | [], _, _, _, _, _, _, h, _, _, _ => by simp at h
  | o :: os, S, L, f, t, 0, o1, h, hd, hL, hr => by
    obtain rfl : o = o1 := by simpa using h
    unfold cur
    rw [cur_congr os _ _ (fun _ => false) _ _ t rfl fun i o' ho hd' => hr (i + 1) o' (by omega) (by simpa using ho) hd', cur_none]
    simp [hL, hd]
  | o :: os, S, L, f, t, i + 1, o1, h, hd, hL, hr => by
    unfold cur
    exact cur_last os _ _ _ t i o1 (by simpa using h) hd hL fun j o' hj ho hd' => hr (j + 1) o' (by omega) (by simpa using ho) hd'

/-- The frames of the lexical walk. -/
def frS : List Oper → (Nat → Slot) → List Slot → List Slot
  | [], _, F => F
  | o :: os, S, F => frS os (fun i => S (i + 1)) (setS F o.dst (S 0))
theorem setS_length (F : List Slot) (d : Option Tmp) (s : Slot) : (setS F d s).length = F.length := by cases d <;> simp [setS]
theorem setS_getD (F : List Slot) (d : Option Tmp) (s : Slot) (t : Nat) (ht : t < F.length) : (setS F d s).getD t (.c undef) = if d = some t then s else F.getD t (.c undef) := by
  cases d with
  | none => simp [setS]
  | some d =>
    by_cases h : d = t
    · subst h; simp [setS, ht]
    · simp [setS, h]
theorem frS_length : ∀ (os : List Oper) (S : Nat → Slot) (F : List Slot), (frS os S F).length = F.length
  | [], _, _ => rfl
  | o :: os, S, F => by unfold frS; rw [frS_length, setS_length]
theorem frS_getD : ∀ (os : List Oper) (S : Nat → Slot) (F : List Slot) (f : Tmp → Slot) (t : Nat), t < F.length → F.getD t (.c undef) = f t → (frS os S F).getD t (.c undef) = cur os S (fun _ => true) f t
  | [], _, _, _, _, _, h => h
  | o :: os, S, F, f, t, ht, h => by
    unfold frS cur
    refine frS_getD os _ _ _ t (by rw [setS_length]; exact ht) ?_
    rw [setS_getD _ _ _ _ ht, h]
    simp

section
variable {P : Program} {ops : Array Oper} {C : World → Prop}
theorem wpS_fun {Q : List Slot → Prop} : ∀ (l : List Oper) (F : List Slot), wpS P ops C Q l F →
    ∃ S : Nat → Slot, (∀ i, Stab (S i)) ∧ (∀ i o, l[i]? = some o → stS P ops C (frS (l.take i) S F) o (S i)) ∧ Q (frS l S F)
  | [], F, h => ⟨fun _ => .c undef, fun _ => stab_c _, fun i o h => by simp at h, h⟩
  | o :: l, F, h => by
    obtain ⟨s, hs, h1, h2⟩ := h
    obtain ⟨S, g1, g2, g3⟩ := wpS_fun l _ h2
    refine ⟨fun i => match i with | 0 => s | i + 1 => S i, fun i => by cases i <;> simp only [hs, g1], fun i o' ho => ?_, g3⟩
    cases i with
    | zero => obtain rfl : o = o' := by simpa using ho
              exact h1
    | succ i => exact g2 i o' (by simpa using ho)

theorem wp_of_upS {o : Oper} {a : Act} {w : World} {K : Act → World → Prop} {Q' : Exit → Act → World → Prop} {s : Slot} (h : upS P w s ((execOp a.eval o).run P w))
    (hK : ∀ v w', Below w.heap.size w w' → s.holds v w' → K (a.put o.dst v) w') : o.wp P a w K Q' := by
  unfold Oper.wp
  generalize (execOp a.eval o).run P w = r at *
  cases r with
  | ok n w' =>
    cases n <;> simp only [upS] at h <;> simp only [Oper.upon]
    case value u => exact hK _ _ h.1 h.2
    case skip => exact hK _ _ h.1 h.2
    case enter f args => exact h.mono fun e w'' ⟨v, he, h1, h2⟩ => by subst he; exact hK _ _ h1 h2
  | halt x w' => simp only [upS] at h

theorem getD_set_eq {L : Array Bool} {i : Nat} (h : i < L.size) (d : Bool) : (L.setIfInBounds i true).getD i d = true := by simp [h]
theorem put_getD (a : Act) (d : Option Tmp) (v : Value) (t : Nat) (ht : t < a.tmps.size) : (a.put d v).tmps.getD t undef = if d = some t then v else a.tmps.getD t undef := by
  cases d with
  | none => simp [Act.put]
  | some d =>
    by_cases h : d = t
    · subst h; simp [Act.put, ht]
    · simp [Act.put, Array.getElem?_setIfInBounds_ne h, h]
theorem put_size (a : Act) (d : Option Tmp) (v : Value) : (a.put d v).tmps.size = a.tmps.size := by cases d <;> simp [Act.put]
theorem put_defers (a : Act) (d : Option Tmp) (v : Value) : (a.put d v).defers = a.defers := by cases d <;> rfl

/-- How many have not come up. -/
def left (L : Array Bool) : Nat := L.toList.count false
theorem left_set {L : Array Bool} {i : Nat} (hi : i < L.size) (h : L.getD i true = false) : left (L.setIfInBounds i true) + 1 = left L := by
  unfold left
  have hi' : i < L.toList.length := by simpa using hi
  have h0 : L.toList[i] = false := by simpa [hi] using h
  rw [Array.toList_setIfInBounds, List.count_set hi', h0]
  have h1 : 0 < List.count false L.toList := List.count_pos_iff.2 (by rw [← h0]; exact List.getElem_mem hi')
  show List.count false L.toList - 1 + 0 + 1 = _
  omega
theorem left_zero {L : Array Bool} (h : left L = 0) (i : Nat) (hi : i < L.size) : L.getD i false = true := by
  have h1 : false ∉ L.toList := List.count_eq_zero.1 h
  cases hb : L[i] with
  | true => simp [hi, hb]
  | false => exact absurd (by rw [← hb]; simp) h1

/-- The tail, in its order. -/
theorem tail_forced {m : List Nat} {k : Nat} {Q' : Exit → Act → World → Prop} (hm : maskOkB ops m = true) (ho : ordB ops m k = true) :
    ∀ (n j : Nat) (L : Array Bool) (a : Act) (w : World), n + j = ops.size → k ≤ j → L.size = ops.size → Closed ops L →
      (∀ i, i < j → L.getD i false = true) → (∀ i, j ≤ i → i < ops.size → L.getD i true = false) → wpList P ops Q' (ops.toList.drop j) a w → wpAny P .any ops Q' n L a w
  | 0, j, L, a, w, hn, hk, hs, hc, h1, h2, h => by
    have hnil : Region.ready .any ops L = [] := by
      rw [List.eq_nil_iff_forall_not_mem]
      intro i hi
      obtain ⟨hu, o, hoi, _⟩ := mem_ready.1 hi
      have hlt : i < ops.size := (Array.getElem?_eq_some_iff.1 hoi).1
      have := h1 i (by omega)
      simp [hs, hlt] at this hu
      rw [this] at hu; cases hu
    refine ⟨hnil, ?_⟩
    rw [List.drop_eq_nil_of_le (by simp; omega)] at h
    exact h
  | n + 1, j, L, a, w, hn, hk, hs, hc, h1, h2, h => by
    have hj : j < ops.size := by omega
    have hoj : ops[j]? = some ops[j] := by simp [hj]
    have hrdy : j ∈ Region.ready .any ops L := by
      refine mem_ready.2 ⟨h2 j (Nat.le_refl _) hj, _, hoj, fun e he hb => h1 _ ?_⟩
      have g := List.all_eq_true.1 hm j (List.mem_range.2 hj)
      rw [hoj] at g
      simp only [Bool.and_eq_true] at g
      have g4 := Array.all_eq_true'.1 g.1 e he
      rw [hb] at g4
      simpa using g4
    refine ⟨fun h0 => absurd hrdy (by rw [h0]; exact List.not_mem_nil), fun i hi => ?_⟩
    obtain ⟨hu, o, hoi, hall⟩ := mem_ready.1 hi
    have hlt : i < ops.size := (Array.getElem?_eq_some_iff.1 hoi).1
    have hij : i = j := by
      rcases Nat.lt_trichotomy i j with h3 | h3 | h3
      · have := h1 i h3
        simp [hs, hlt] at this hu
        rw [this] at hu; cases hu
      · exact h3
      · -- j waits ahead of i
        exfalso
        have g := List.all_eq_true.1 ho i (List.mem_range.2 hlt)
        have g2 := List.all_eq_true.1 g j (List.mem_range.2 h3)
        rw [show decide (i < k) = false by simp; omega] at g2
        simp only [Bool.false_and, Bool.or_false] at g2
        have hcl : Closed ops (L.setIfInBounds i true) := by
          intro j' oj' hj' hl' e he hb
          by_cases hij : i = j'
          · subst hij
            obtain rfl : oj' = o := Option.some.inj (hj'.symm.trans hoi)
            exact getD_set_true (hall e he hb)
          · rw [getD_set_ne false hij] at hl'
            exact getD_set_true (hc j' oj' hj' hl' e he hb)
        have := closed_mask hm hcl i i j (Nat.le_refl _) hlt hj g2 (getD_set_eq (by omega) _)
        rw [getD_set_ne false (by omega)] at this
        have h5 := h2 j (Nat.le_refl _) hj
        simp [hs, hj] at this h5
        rw [this] at h5; cases h5
    subst hij
    have hd : ops.toList.drop i = ops[i] :: ops.toList.drop (i + 1) := by
      rw [List.drop_eq_getElem_cons (by simpa using hlt)]; simp
    rw [hd] at h
    have hcl : Closed ops (L.setIfInBounds i true) := by
      intro j' oj' hj' hl' e he hb
      by_cases hij : i = j'
      · subst hij
        obtain rfl : oj' = o := Option.some.inj (hj'.symm.trans hoi)
        exact getD_set_true (hall e he hb)
      · rw [getD_set_ne false hij] at hl'
        exact getD_set_true (hc j' oj' hj' hl' e he hb)
    have rec1 : ∀ a' w', wpList P ops Q' (ops.toList.drop (i + 1)) a' w' → wpAny P .any ops Q' n (L.setIfInBounds i true) a' w' := fun a' w' h' =>
      tail_forced hm ho n (i + 1) _ a' w' (by omega) (by omega) (by simpa using hs) hcl
        (fun i' hi' => by
          by_cases e : i = i'
          · subst e; exact getD_set_eq (by omega) _
          · rw [getD_set_ne false e]; exact h1 i' (by omega))
        (fun i' hi' hi2 => by rw [getD_set_ne true (by omega)]; exact h2 i' (by omega) hi2) h'
    unfold wpOp
    rw [hoj]
    simp only []
    unfold wpList at h
    split
    · rename_i hw
      rw [if_pos hw] at h
      exact h.imp (fun h => Oper.wp_mono rec1 h) id
    · rename_i hw
      rw [if_neg hw] at h
      exact rec1 _ _ h

theorem stab_cur : ∀ (os : List Oper) (S : Nat → Slot) (L : Nat → Bool) (f : Tmp → Slot) (t : Tmp), (∀ i, Stab (S i)) → (∀ t, Stab (f t)) → Stab (cur os S L f t)
  | [], _, _, _, _, _, h => h _
  | o :: os, S, L, f, t, hs, h => by
    unfold cur
    refine stab_cur os _ _ _ t (fun i => hs _) fun t => ?_
    split
    · exact hs 0
    · exact h t

/-- The class of the worlds of a region: memory as it was, and what was made since. -/
def CB (W0 : World) : World → Prop := fun w => Below W0.heap.size W0 w
theorem CB.step {W0 w w' : World} (h : CB W0 w) (hb : Below w.heap.size w w') : CB W0 w' := Below.trans h (hb.mono h.size)

theorem CB.cell {W0 w : World} (h : CB W0 w) {p : Addr} {v : Value} (hc : W0.cell? p = some v) : w.cell? p = some v := (Below.cell h (lt_heap hc)).trans hc

theorem CB.below {w w' : World} (h : CB w.drew w') : Below w.heap.size w w' := bl_trans (bl_drew (bl_refl w)) h

structure InvS (ops : Array Oper) (k : Nat) (W0 : World) (F0 : List Slot) (S : Nat → Slot) (d : List Deferred) (L : Array Bool) (a : Act) (w : World) : Prop where
  size : L.size = ops.size
  closed : Closed ops L
  tl : ∀ i, k ≤ i → i < ops.size → L.getD i true = false
  cls : CB W0 w
  asize : a.tmps.size = F0.length
  defers : a.defers = d
  slot : ∀ t, t < F0.length → (cur ops.toList S (fun i => L.getD i false) (fun t => F0.getD t (.c undef)) t).holds (a.tmps.getD t undef) w

theorem getD_tf {L : Array Bool} {i : Nat} (h : L.getD i true = false) : L.getD i false = false := by
  rcases Nat.lt_or_ge i L.size with h' | h'
  · simp [h'] at h ⊢; exact h
  · simp [Array.getElem?_eq_none h'] at h
theorem getD_ft {L : Array Bool} {i : Nat} (hi : i < L.size) (h : L.getD i false = false) : L.getD i true = false := by
  simp [hi] at h ⊢; exact h

theorem closed_set {L : Array Bool} {i : Nat} (hc : Closed ops L) (hi : i ∈ Region.ready .any ops L) : Closed ops (L.setIfInBounds i true) := by
  obtain ⟨_, o, hoi, hall⟩ := mem_ready.1 hi
  intro j' oj' hj' hl' e he hb
  by_cases hij : i = j'
  · subst hij
    obtain rfl : oj' = o := Option.some.inj (hj'.symm.trans hoi)
    exact getD_set_true (hall e he hb)
  · rw [getD_set_ne false hij] at hl'
    exact getD_set_true (hc j' oj' hj' hl' e he hb)

/-- What stands ahead of a ready operation has come up. -/
theorem ahead {m : List Nat} {L : Array Bool} {i i' : Nat} (hm : maskOkB ops m = true) (hc : Closed ops L) (hs : L.size = ops.size) (hi : i ∈ Region.ready .any ops L) (hlt : i' < i) (hb : (m.getD i 0).testBit i' = true) : L.getD i' false = true := by
  obtain ⟨_, o, hoi, _⟩ := mem_ready.1 hi
  have hil : i < ops.size := (Array.getElem?_eq_some_iff.1 hoi).1
  have := closed_mask hm (closed_set hc hi) i i i' (Nat.le_refl _) hil (by omega) hb (getD_set_eq (by omega) _)
  rwa [getD_set_ne false (by omega)] at this

theorem region_main {m : List Nat} {k : Nat} {W0 : World} {F0 : List Slot} {S : Nat → Slot} {d : List Deferred} {Q' : Exit → Act → World → Prop}
    (hm : maskOkB ops m = true) (ho : ordB ops m k = true) (hk : k ≤ ops.size) (hF : ∀ t, Stab (F0.getD t (.c undef))) (hS : ∀ i, Stab (S i))
    (hst : ∀ i o, (ops.toList.take k)[i]? = some o → stS P ops (CB W0) (frS ((ops.toList.take k).take i) S F0) o (S i))
    (hQ : ∀ w, CB W0 w → closeS w (frS (ops.toList.take k) S F0) fun l => wpList P ops Q' (ops.toList.drop k) ⟨l.toArray, d⟩ w) :
    ∀ (n : Nat) (L : Array Bool) (a : Act) (w : World), InvS ops k W0 F0 S d L a w → left L = n → wpAny P .any ops Q' n L a w := by
  intro n
  induction n with
  | zero =>
    intro L a w inv hn
    have hall : ∀ i, i < ops.size → L.getD i false = true := fun i hi => left_zero hn i (by rw [inv.size]; exact hi)
    by_cases hkk : k < ops.size
    · have h1 := inv.tl k (Nat.le_refl _) hkk
      have h2 := hall k hkk
      rw [getD_tf h1] at h2; cases h2
    · obtain rfl : k = ops.size := by omega
      refine tail_forced (m := m) hm ho 0 ops.size L a w (by simp) (Nat.le_refl _) inv.size inv.closed hall (fun i h1 h2 => by omega) ?_
      have := closeS_apply w _ _ a.tmps.toList (hQ w inv.cls) (by rw [frS_length]; simp [inv.asize]) fun t s u h1 h2 => ?_
      · have e : (⟨a.tmps.toList.toArray, d⟩ : Act) = a := by cases a; simp [← inv.defers]
        rwa [e] at this
      · have ht : t < F0.length := by
          have := (List.getElem?_eq_some_iff.1 h1).1
          rwa [frS_length] at this
        have h3 := inv.slot t ht
        rw [cur_congr ops.toList S _ (fun i => decide (i < ops.size)) _ _ t rfl (fun i o hoi _ => by
          have hi : i < ops.size := by have := (List.getElem?_eq_some_iff.1 hoi).1; simpa using this
          rw [hall i hi]; simp [hi]), cur_take, ← frS_getD _ _ F0 _ t ht rfl] at h3
        have e1 : (frS (List.take ops.size ops.toList) S F0).getD t (.c undef) = s := by simp [List.getD, h1]
        have e2 : a.tmps.getD t undef = u := by
          have h4 : a.tmps[t]? = some u := by simpa using h2
          simp [h4]
        rwa [e1, e2] at h3
  | succ n ih =>
    intro L a w inv hn
    by_cases hall : ∀ i, i < k → L.getD i false = true
    · -- the tail
      have hfin : wpList P ops Q' (ops.toList.drop k) a w := by
        have := closeS_apply w _ _ a.tmps.toList (hQ w inv.cls) (by rw [frS_length]; simp [inv.asize]) fun t s u h1 h2 => ?_
        · have e : (⟨a.tmps.toList.toArray, d⟩ : Act) = a := by cases a; simp [← inv.defers]
          rwa [e] at this
        · have ht : t < F0.length := by
            have := (List.getElem?_eq_some_iff.1 h1).1
            rwa [frS_length] at this
          have h3 := inv.slot t ht
          rw [cur_congr ops.toList S _ (fun i => decide (i < k)) _ _ t rfl (fun i o hoi _ => by
            have hi : i < ops.size := by have := (List.getElem?_eq_some_iff.1 hoi).1; simpa using this
            by_cases hik : i < k
            · rw [hall i hik]; simp [hik]
            · rw [getD_tf (inv.tl i (by omega) hi)]; simp [hik]), cur_take, ← frS_getD _ _ F0 _ t ht rfl] at h3
          have e1 : (frS (List.take k ops.toList) S F0).getD t (.c undef) = s := by simp [List.getD, h1]
          have e2 : a.tmps.getD t undef = u := by
            have h4 : a.tmps[t]? = some u := by simpa using h2
            simp [h4]
          rwa [e1, e2] at h3
      have hcount : n + 1 + k = ops.size := by
        rw [← hn, ← inv.size]
        have hlen : L.toList.length = L.size := by simp
        have h5 : (L.toList.take k).count false = 0 := by
          rw [List.count_eq_zero]
          intro hmem
          obtain ⟨i, hi, he⟩ := List.getElem_of_mem hmem
          have hik : i < k := by simp at hi; omega
          have hil : i < L.size := by simp at hi; omega
          have := hall i hik
          simp [hil] at this
          simp [this] at he
        have h6 : (L.toList.drop k).count false = (L.toList.drop k).length := by
          rw [List.count_eq_length]
          intro b hb
          obtain ⟨i, hi, he⟩ := List.getElem_of_mem hb
          have hil : k + i < L.size := by simp at hi; omega
          have := inv.tl (k + i) (by omega) (by rw [← inv.size]; exact hil)
          simp [hil] at this
          rw [← he]; simp [this]
        have h7 : left L = (L.toList.take k).count false + (L.toList.drop k).count false := by
          unfold left
          rw [← List.count_append, List.take_append_drop]
        rw [h7, h5, h6, List.length_drop, hlen]
        have := inv.size
        omega
      exact tail_forced (m := m) hm ho (n + 1) k L a w hcount (Nat.le_refl _) inv.size inv.closed hall inv.tl hfin
    · obtain ⟨i0, hi0, hu0⟩ : ∃ i, i < k ∧ L.getD i false = false := by
        rw [Classical.not_forall] at hall
        obtain ⟨i, hi⟩ := hall
        rw [Classical.not_imp] at hi
        exact ⟨i, hi.1, by simpa using hi.2⟩
      refine ⟨fun h0 => ?_, fun i hi => ?_⟩
      · -- something is ready
        exfalso
        have : ∀ n i, i < n → i < ops.size → L.getD i false = false → False := by
          intro n
          induction n with
          | zero => intro i h; omega
          | succ n ihn =>
            intro i hin his hu
            by_cases hbad : ∃ i', i' < i ∧ L.getD i' false = false
            · obtain ⟨i', h1, h2⟩ := hbad
              exact ihn i' (by omega) (by omega) h2
            · have hoi : ops[i]? = some ops[i] := by simp [his]
              have hr : i ∈ Region.ready .any ops L := by
                refine mem_ready.2 ⟨getD_ft (by rw [inv.size]; exact his) hu, _, hoi, fun e he hb => ?_⟩
                have g := List.all_eq_true.1 hm i (List.mem_range.2 his)
                rw [hoi] at g
                simp only [Bool.and_eq_true] at g
                have g4 := Array.all_eq_true'.1 g.1 e he
                rw [hb] at g4
                have g5 : e.on < i := by simpa using g4
                cases hle : L.getD e.on false with
                | true => rfl
                | false => exact absurd ⟨e.on, g5, hle⟩ hbad
              rw [h0] at hr; exact List.not_mem_nil hr
        exact this (i0 + 1) i0 (by omega) (by omega) hu0
      · obtain ⟨hu, o, hoi, hallE⟩ := mem_ready.1 hi
        have hlt : i < ops.size := (Array.getElem?_eq_some_iff.1 hoi).1
        have hik : i < k := by
          rcases Nat.lt_or_ge i k with h | h
          · exact h
          · exfalso
            have g := List.all_eq_true.1 ho i (List.mem_range.2 hlt)
            have g2 := List.all_eq_true.1 g i0 (List.mem_range.2 (by omega))
            rw [show decide (i < k) = false by simp; omega] at g2
            simp only [Bool.false_and, Bool.or_false] at g2
            have := ahead hm inv.closed inv.size hi (by omega) g2
            rw [hu0] at this; cases this
        have hil : i < L.size := by rw [inv.size]; exact hlt
        have holist : ops.toList[i]? = some o := by simpa using hoi
        -- what operation i looks at
        have look : ∀ t, t ∈ o.looksAt ops → ((frS ((ops.toList.take k).take i) S F0).getD t (.c undef)).holds (a.tmps.getD t undef) w := by
          intro t ht
          rw [List.take_take, Nat.min_eq_left (by omega)]
          by_cases htl : t < F0.length
          · have h3 := inv.slot t htl
            rw [cur_congr ops.toList S _ (fun i' => decide (i' < i)) _ _ t rfl (fun i' o' ho' hd' => by
              have hi's : i' < ops.size := by have := (List.getElem?_eq_some_iff.1 ho').1; simpa using this
              have hoa : ops[i']? = some o' := by simpa using ho'
              rcases Nat.lt_trichotomy i' i with h4 | h4 | h4
              · have g := List.all_eq_true.1 ho i (List.mem_range.2 hlt)
                have g2 := List.all_eq_true.1 g i' (List.mem_range.2 h4)
                rw [hoi, hoa] at g2
                simp only [Bool.or_eq_true, Bool.and_eq_true] at g2
                rcases g2 with g2 | g2
                · rw [ahead hm inv.closed inv.size hi h4 g2]; simp [h4]
                · exact absurd ht ((Oper.apart_spec g2.2).1 t hd')
              · subst h4; rw [getD_tf hu]; simp
              · rw [show decide (i' < i) = false by simp; omega]
                cases hl : L.getD i' false with
                | false => rfl
                | true =>
                  exfalso
                  have g := List.all_eq_true.1 ho i' (List.mem_range.2 hi's)
                  have g2 := List.all_eq_true.1 g i (List.mem_range.2 h4)
                  rw [hoi, hoa] at g2
                  simp only [Bool.or_eq_true, Bool.and_eq_true] at g2
                  rcases g2 with g2 | g2
                  · have := closed_mask hm inv.closed i' i' i (Nat.le_refl _) hi's hlt g2 hl
                    rw [getD_tf hu] at this; cases this
                  · exact absurd ht ((Oper.apart_spec g2.2).2.2 t hd')), cur_take, ← frS_getD _ _ F0 _ t htl rfl] at h3
            exact h3
          · have e1 : (frS (List.take i ops.toList) S F0).getD t (.c undef) = .c undef := by
              rw [List.getD, List.getElem?_eq_none (Nat.le_trans (Nat.le_of_eq (frS_length _ _ _)) (Nat.le_of_not_lt htl))]; rfl
            have e2 : a.tmps.getD t undef = undef := by
              have h9 : a.tmps.size ≤ t := by rw [inv.asize]; exact Nat.le_of_not_lt htl
              simp [Array.getElem?_eq_none h9]
            rw [e1, e2]; rfl
        have opnds : ∀ x ∈ o.op.operands.toList, (opndS (frS ((ops.toList.take k).take i) S F0) x).holds (a.eval x) w := by
          intro x hx
          cases x with
          | tmp t => exact look t (List.mem_append_left _ (List.mem_filterMap.2 ⟨.tmp t, hx, rfl⟩))
          | const v => rfl
          | global g => rfl
          | func f => rfl
        -- behind it
        have next : ∀ v w', Below w.heap.size w w' → (S i).holds v w' → wpAny P .any ops Q' n (L.setIfInBounds i true) (a.put o.dst v) w' := by
          intro v w' hb hv
          refine ih _ _ _ ⟨by simpa using inv.size, closed_set inv.closed hi, fun i' h1 h2 => by rw [getD_set_ne true (by omega)]; exact inv.tl i' h1 h2, inv.cls.step hb, by rw [put_size]; exact inv.asize, by rw [put_defers]; exact inv.defers, fun t ht => ?_⟩ (by have := left_set hil hu; omega)
          rw [put_getD _ _ _ _ (by rw [inv.asize]; exact ht)]
          by_cases hd : o.dst = some t
          · rw [if_pos hd, cur_last ops.toList S _ _ t i o holist hd (getD_set_eq hil _) (fun j o' hj hoj hd' => by
              rw [getD_set_ne false (by omega)]
              have hjs : j < ops.size := by have := (List.getElem?_eq_some_iff.1 hoj).1; simpa using this
              cases hl : L.getD j false with
              | false => rfl
              | true =>
                exfalso
                have hoa : ops[j]? = some o' := by simpa using hoj
                have g := List.all_eq_true.1 ho j (List.mem_range.2 hjs)
                have g2 := List.all_eq_true.1 g i (List.mem_range.2 hj)
                rw [hoi, hoa] at g2
                simp only [Bool.or_eq_true, Bool.and_eq_true] at g2
                rcases g2 with g2 | g2
                · have := closed_mask hm inv.closed j j i (Nat.le_refl _) hjs hlt g2 hl
                  rw [getD_tf hu] at this; cases this
                · exact (Oper.apart_spec g2.2).2.1 t hd hd')]
            exact hv
          · rw [if_neg hd, cur_congr ops.toList S _ (fun i => L.getD i false) _ _ t rfl (fun i' o' ho' hd' => by
              by_cases e : i = i'
              · subst e
                obtain rfl : o' = o := Option.some.inj (ho'.symm.trans holist)
                exact absurd hd' hd
              · rw [getD_set_ne false e])]
            exact stab_cur ops.toList S _ _ t hS hF _ _ _ hb (inv.slot t ht)
        have hstep := hst i o (by rw [List.getElem?_take, if_pos hik]; exact holist)
        unfold wpOp
        rw [hoi]
        simp only []
        unfold stS at hstep
        cases hg : o.guard with
        | none =>
          rw [hg] at hstep
          rw [if_pos (by simp [Region.wanted, hg])]
          exact .inl (wp_of_upS (hstep a.eval w inv.cls opnds) next)
        | some jw =>
          obtain ⟨j, want⟩ := jw
          rw [hg] at hstep
          rcases hstep with ⟨b, ⟨t, hdt, hFt⟩, hif⟩ | ⟨⟨t, hdt, hFt⟩, hif⟩
          · have ht : t ∈ o.looksAt ops := List.mem_append_right _ (by simp [hg, hdt])
            have h3 := look t ht
            have h4 : (frS ((ops.toList.take k).take i) S F0).getD t (.c undef) = .c (.bool b) := by simp only [List.getD, hFt]; rfl
            rw [h4] at h3
            have h5 : a.tmps.getD t undef = .bool b := h3
            have htl : t < a.tmps.size := by
              have := (List.getElem?_eq_some_iff.1 hFt).1
              rw [frS_length] at this
              rw [inv.asize]; exact this
            have h6 : a.tmps[t]? = some (.bool b) := by simpa [htl] using h5
            have hy : yielded ops a.tmps j = some b := by simp [yielded, hdt, h6]
            by_cases hbw : b = want
            · rw [if_pos hbw] at hif
              rw [if_pos (by simp [Region.wanted, hg, hy, hbw])]
              exact .inl (wp_of_upS (hif a.eval w inv.cls opnds) next)
            · rw [if_neg hbw] at hif
              rw [if_neg (by simp [Region.wanted, hg, hy, hbw])]
              exact next undef w (Below.refl _ _) (by rw [hif]; rfl)
          · have ht : t ∈ o.looksAt ops := List.mem_append_right _ (by simp [hg, hdt])
            have h3 := look t ht
            have h4 : (frS ((ops.toList.take k).take i) S F0).getD t (.c undef) = .c undef := by simp only [List.getD, hFt]; rfl
            rw [h4] at h3
            have h5 : a.tmps.getD t undef = undef := h3
            have htl : t < a.tmps.size := by
              have := (List.getElem?_eq_some_iff.1 hFt).1
              rw [frS_length] at this
              rw [inv.asize]; exact this
            have h6 : a.tmps[t]? = some undef := by simpa [htl] using h5
            have hy : yielded ops a.tmps j = none := by simp [yielded, hdt, h6, undef]
            rw [if_neg (by simp [Region.wanted, hg, hy])]
            exact next undef w (Below.refl _ _) (by rw [hif]; rfl)

/-- THE THEOREM: one walk in the order of the text; the first k operations under 'wpS', the others in their order behind. -/
theorem wp_region_S {id k : Nat} {l : List Oper} {vs : List Value} {d : List Deferred} {w : World} {Q' : Exit → Act → World → Prop} (hm : P.follows .mixedOrders = true) (hB : regB l.toArray k = true)
    (h : wpS P l.toArray (CB w.drew) (fun F => ∀ w', CB w.drew w' → closeS w' F fun l' => wpList P l.toArray Q' (l.drop k) ⟨l'.toArray, d⟩ w') (l.take k) (slotsOfList vs)) :
    (Code.region id l.toArray true).wp P Q' ⟨vs.toArray, d⟩ w := by
  simp only [regB, Bool.and_eq_true, decide_eq_true_eq] at hB
  obtain ⟨⟨h1, h2⟩, h4⟩ := hB
  obtain ⟨S, hS, hst, hQ⟩ := wpS_fun _ _ h
  refine wp_region_any hm ?_
  have hF : ∀ t, Stab ((slotsOfList vs).getD t (.c undef)) := fun t => by
    unfold slotsOfList
    rcases Nat.lt_or_ge t vs.length with ht | ht
    · simp [List.getD, ht]; exact stab_c _
    · simp [List.getD, List.getElem?_eq_none ht]; exact stab_c _
  have hl0 : ∀ i, (Array.replicate l.toArray.size false).getD i false = false := fun i => by
    rcases Nat.lt_or_ge i l.length with hi | hi <;> simp [hi]
  refine region_main (m := masks l) (d := d) (S := S) (W0 := w.drew) (F0 := slotsOfList vs) (k := k) h1 h2 h4 hF hS (by simpa using hst) (by simpa using hQ) l.toArray.size _ _ _
    ⟨by simp, fun j oj hj hl => absurd hl (by rw [hl0]; simp), fun i _ hi => getD_ft (by simpa using hi) (hl0 i), Below.refl _ _, by simp [slotsOfList], rfl, fun t ht => ?_⟩ (by simp [left])
  rw [cur_congr _ S _ (fun _ => false) _ _ t rfl (fun i o _ _ => hl0 i), cur_none]
  have ht' : t < vs.length := by simpa [slotsOfList] using ht
  simp [slotsOfList, List.getD, ht', Slot.holds]

/-- The same, what stands behind the region kept behind a variable. -/
theorem wp_region_K {id : Nat} (k : Nat) {l : List Oper} {vs : List Value} {d : List Deferred} {w : World} {Q' : Exit → Act → World → Prop} (hm : P.follows .mixedOrders = true) (hB : regB l.toArray k = true)
    (h : ∀ Q : List Slot → Prop, (∀ F, (∀ w', CB w.drew w' → closeS w' F fun l' => wpList P l.toArray Q' (l.drop k) ⟨l'.toArray, d⟩ w') → Q F) → wpS P l.toArray (CB w.drew) Q (l.take k) (vs.map Slot.c)) :
    (Code.region id l.toArray true).wp P Q' ⟨vs.toArray, d⟩ w :=
  wp_region_S hm hB (h _ fun _ h => h)
end
end Go.Proofs.YtbpkclopcoaikaaGreatDoor
namespace Go.Proofs.YtbpkclopcoaikaaGreatDoor
open Go.RowKit
set_option linter.unusedVariables false
set_option linter.unusedSimpArgs false

section
variable {P : Program} (w : World)

theorem run_append_nothing (base : Nat) (t ty e : TypeId) (i : TypeInfo) (size : Nat) (ht : P.underlying t = some (.slice e)) (hi : P.info? e = some i)
    (v : Value) (n : Nat) (xs : List Value) (hown : w.ownsRow base e size v n xs) (c : Nat) : (Builtin.append_ #[t, t] ty #[v, .slice none 0 c]).run P w = .ok v w := by
  rcases hown.2 with ⟨rfl, rfl⟩ | ⟨g, cap, cur, rfl, _, _, hnc, _⟩
  · simp [Builtin.append_, run_underlying ht, sizeOf, typeInfo, hi, Builtin.lenOf, Builtin.firstCells]
  · simp [Builtin.append_, run_underlying ht, sizeOf, typeInfo, hi, Builtin.lenOf, Builtin.firstCells, hnc, storeCells]

theorem run_append_rd (base : Nat) (t ty e : TypeId) (i : TypeInfo) (z : Value) (size bytes : Nat) (ht : P.underlying t = some (.slice e)) (hi : P.info? e = some i) (hz : i.zero = some z)
    (hsize : i.size = size) (hby : i.bytes = bytes) (hzs : z.cells.size = size) (hsz : 0 < size)
    (v : Value) (n : Nat) (xs : List Value) (hown : w.ownsRow base e size v n xs)
    (A : Option Addr) (m c : Nat) (news : List Value) (hl : news.length = m * size) (hr : Rd w A news) (h1 : ∀ u ∈ news, u.oneCell' = true)
    (h63 : n + m ≤ maxLen) (hbytes : (n + m) * bytes ≤ 140737488355328) (hbase : base ≤ w.heap.size) :
    ∃ v' w', (Builtin.append_ #[t, t] ty #[v, .slice A m c]).run P w = .ok v' w' ∧ w'.ownsRow base e size v' (n + m) (xs ++ news) ∧ w.grownBy w' v.ownBlock ∧
      (v'.ownBlock = v.ownBlock ∨ v'.ownBlock = some w.heap.size) := by
  rcases A with _ | ad
  · have hn : news = [] := by
      rcases hr with h | ⟨b, o, h, _⟩
      · exact h
      · cases h
    subst hn
    have hm : m = 0 := by
      rcases Nat.eq_zero_or_pos m with h0 | h0
      · exact h0
      · have := Nat.mul_pos h0 hsz; simp at hl; omega
    subst hm
    exact ⟨v, w, run_append_nothing w base t ty e i size ht hi v n xs hown c, by simpa using hown, World.grownBy.refl w _, .inl rfl⟩
  · obtain ⟨v', w', hrun, h2, h3, _, h5⟩ := run_append_own_at (P := P) w base t ty e i z size bytes ht hi hz hsize hby hzs hsz v n xs hown ad m c news hl (hr.cells ad rfl) h1 h63 hbytes hbase
    exact ⟨v', w', hrun, h2, h3, h5⟩

theorem wpList_append_rd {ops : Array Oper} {rest : List Oper} {o : Oper} {a : Act} {Q : Exit → Act → World → Prop} (hgd : o.guard = none) (s x : Operand) (t : TypeId)
    (ho : o.op = .call { callee := .builtin .append, args := #[s, x], argTypes := #[t, t] })
    (base : Nat) (e : TypeId) (i : TypeInfo) (z : Value) (size bytes : Nat) (ht : P.underlying t = some (.slice e)) (hi : P.info? e = some i) (hz : i.zero = some z)
    (hsize : i.size = size) (hby : i.bytes = bytes) (hzs : z.cells.size = size) (hsz : 0 < size)
    (v : Value) (n : Nat) (xs : List Value) (hs : a.eval s = v) (hown : w.ownsRow base e size v n xs)
    (A : Option Addr) (m c : Nat) (news : List Value) (hx : a.eval x = .slice A m c) (hl : news.length = m * size) (hr : Rd w A news) (h1 : ∀ u ∈ news, u.oneCell' = true)
    (h63 : n + m ≤ maxLen) (hbytes : (n + m) * bytes ≤ 140737488355328) (hbase : base ≤ w.heap.size)
    (h : ∀ v' w', w'.ownsRow base e size v' (n + m) (xs ++ news) → w.grownBy w' v.ownBlock → (v'.ownBlock = v.ownBlock ∨ v'.ownBlock = some w.heap.size) → wpList P ops Q rest (a.put o.dst v') w') : wpList P ops Q (o :: rest) a w := by
  refine wpList_plain hgd fun K hK => ?_
  obtain ⟨v', w', hr', h2, h3, h4⟩ := run_append_rd (P := P) w base t o.type e i z size bytes ht hi hz hsize hby hzs hsz v n xs hown A m c news hl hr h1 h63 hbytes hbase
  unfold Oper.wp execOp
  simp only [ho, resolve, invoke, builtin, Sem.run_bind, Sem.run_pure, Result.andThen_ok, List.map_toArray, List.map_cons, List.map_nil, hs, hx, hr']
  exact hK _ _ (h v' w' h2 h3 h4)
end

/-- 'make([]T, n, c)'. -/
theorem run_make_nc {P : Program} (t e : TypeId) (i : TypeInfo) (z : Value) (ht : P.underlying t = some (.slice e)) (hi : P.info? e = some i) (hz : i.zero = some z)
    (kl kc : IntKind) (n c : Nat) (hnc : n ≤ c) (hbytes : i.bytes * c ≤ 281474976710656) (h63 : c ≤ 9223372036854775807) (w : World) :
    (Instr.makeSlice t (.int kl (n : Int)) (.int kc (c : Int))).run P w = .ok (.slice (some ⟨w.heap.size, 0, none⟩) n c) (w.alloc (.cells (madeCells z.cells (c * i.size)) e)) := by
  have hb : (i.bytes : Int) * (c : Int) ≤ 281474976710656 := by
    have h : ((i.bytes * c : Nat) : Int) ≤ 281474976710656 := by omega
    rwa [Int.natCast_mul] at h
  have hr := run_make (P := P) w t e i z ht hi hz kl kc n c (by omega) (by omega) hb (by omega)
  simp only [Int.toNat_natCast] at hr
  exact hr
theorem made_arr (v : Value) (n : Nat) : madeCells #[v] n = (List.replicate n v).toArray := by
  apply Array.ext
  · simp [madeCells]
  · intro i h1 h2
    simp [madeCells, Nat.mod_one]
theorem one_u8 (c : UInt8) : ∀ u ∈ [u8v c], u.oneCell' = true := by
  intro u hu
  simp at hu; subst hu; rfl
/-- An empty row of the call's own: '[]T{}'. -/
theorem own_empty {w : World} {base g : Nat} {e : TypeId} {size : Nat} (hb : base ≤ g) (hg : w.heap[g]? = some (.cells #[] e (0, 0))) : w.ownsRow base e size (.slice (some ⟨g, 0, none⟩) 0 0) 0 [] :=
  ⟨by simp, .inr ⟨g, 0, #[], rfl, hb, hg, Nat.le_refl _, Nat.zero_le _, by simp, by simp⟩⟩

/-- What a fresh copy by append is: a property that lasts. -/
def FreshRow (base : Nat) (e : TypeId) (n : Nat) (xs : List Value) : Value → World → Prop := fun v w => base ≤ w.heap.size ∧ w.ownsRow base e 1 v n xs
theorem stab_fresh (base : Nat) (e : TypeId) (n : Nat) (xs : List Value) : Stab (.p (FreshRow base e n xs)) := fun u w w' hb ⟨h1, h2⟩ => ⟨Nat.le_trans h1 hb.size, own_below h2 hb⟩
/-- 'append([]T(nil), x...)' in a region. -/
theorem opS_append_nil {P : Program} {C : World → Prop} {F : List Slot} {o : Oper} (s x : Operand) (t : TypeId)
    (ho : o.op = .call { callee := .builtin .append, args := #[s, x], argTypes := #[t, t] })
    (base : Nat) (e : TypeId) (i : TypeInfo) (z : Value) (bytes : Nat) (ht : P.underlying t = some (.slice e)) (hi : P.info? e = some i) (hz : i.zero = some z)
    (hsize : i.size = 1) (hby : i.bytes = bytes) (hzs : z.cells.size = 1)
    (A : Option Addr) (m c : Nat) (news : List Value) (hl : news.length = m) (h1 : ∀ u ∈ news, u.oneCell' = true)
    (hs : opndS F s = .c (.slice none 0 0)) (hx : opndS F x = .c (.slice A m c))
    (hC : ∀ w, C w → Rd w A news ∧ base ≤ w.heap.size)
    (h63 : m ≤ maxLen) (hbytes : m * bytes ≤ 140737488355328) : opS P C F o (.p (FreshRow base e m news)) := by
  intro ev w hw hops
  have e1 : ev s = .slice none 0 0 := by
    have := hops s (by simp [ho, Op.operands, Call.operands])
    rwa [hs] at this
  have e2 : ev x = .slice A m c := by
    have := hops x (by simp [ho, Op.operands, Call.operands])
    rwa [hx] at this
  obtain ⟨hr, hb⟩ := hC w hw
  obtain ⟨v', w', hrun, h2, h3, h4⟩ := run_append_rd (P := P) w base t o.type e i z 1 bytes ht hi hz hsize hby hzs (by omega) (.slice none 0 0) 0 [] (World.ownsRow_nil w base e 1) A m c news (by omega) hr h1 (by omega) (by simpa using hbytes) hb
  unfold execOp
  simp only [ho, resolve, invoke, builtin, Sem.run_bind, Sem.run_pure, Result.andThen_ok, List.map_toArray, List.map_cons, List.map_nil, e1, e2, hrun]
  exact ⟨bl_grown (bl_refl w) h3 (fun k hk => by simp [Value.ownBlock] at hk), Nat.le_trans hb h3.size, by simpa using h2⟩
/-- A slot under a property, handed on. -/
theorem opS_assign_p {P : Program} {C : World → Prop} {F : List Slot} {o : Oper} (x : Operand) (ho : o.op = .assign x) (R : Value → World → Prop) (hx : opndS F x = .p R) : opS P C F o (.p R) := by
  intro ev w hw hops
  have h := hops x (by simp [ho, Op.operands])
  rw [hx] at h
  unfold execOp
  simp only [ho, Sem.run_pure]
  exact ⟨bl_refl w, h⟩
theorem opS_move_p {P : Program} {C : World → Prop} {F : List Slot} {o : Oper} (x : Operand) (ho : o.op = .move x) (R : Value → World → Prop) (hx : opndS F x = .p R) : opS P C F o (.p R) := by
  intro ev w hw hops
  have h := hops x (by simp [ho, Op.operands])
  rw [hx] at h
  unfold execOp
  simp only [ho, Sem.run_pure]
  exact ⟨bl_refl w, h⟩
/-- 'string(b)' of a slot that is a fresh copy. -/
theorem opS_str_fresh {P : Program} {C : World → Prop} {F : List Slot} {o : Oper} (x : Operand) (src dst e : TypeId) (ho : o.op = .convert src dst x)
    (hs : P.underlying src = some (.slice e)) (he : P.underlying e = some (.int .u8)) (hd : P.underlying dst = some .string) (base : Nat) (n : Nat) (l : List UInt8) (hx : opndS F x = .p (FreshRow base e n (l.map u8v))) : opS P C F o (.c (.string (bstr l))) := by
  intro ev w hw hops
  have h := hops x (by simp [ho, Op.operands])
  rw [hx] at h
  obtain ⟨_, hown⟩ := h
  obtain ⟨hn, a, c, hv, _, hr, _⟩ := own_form hown
  have := run_bytes_str (P := P) w src dst e a n c l hs he hd (by simpa using hn) hr
  unfold execOp
  simp only [ho, hv, Sem.run_bind, this, Result.andThen_ok, Sem.run_pure]
  exact ⟨bl_refl w, rfl⟩
end Go.Proofs.YtbpkclopcoaikaaGreatDoor
namespace Go.Proofs.YtbpkclopcoaikaaGreatDoor
open Go.RowKit
set_option linter.unusedVariables false
theorem str_size {S : ByteArray} {l : List UInt8} (h : S = bstr l) : S.size = l.length := by subst h; rfl
theorem str_get {S : ByteArray} {l : List UInt8} (h : S = bstr l) {i : Nat} {c : UInt8} (hc : l[i]? = some c) : ∀ hi, S[i]'hi = c := by
  subst h
  intro hi
  obtain ⟨h1, h2⟩ := List.getElem?_eq_some_iff.1 hc
  exact h2
theorem str_at {S : ByteArray} {l : List UInt8} (h : S = bstr l) {i : Nat} (hi : i < l.length) : ∃ c, l[i]? = some c ∧ ∀ hi, S[i]'hi = c := ⟨l[i], by simp [hi], str_get h (by simp [hi])⟩
theorem bstr_app (a b : List UInt8) : bstr a ++ bstr b = bstr (a ++ b) := by
  apply ByteArray.ext
  rw [ByteArray.data_append]
  simp [bstr]
theorem str_sub {S : ByteArray} {l : List UInt8} (h : S = bstr l) (i j : Nat) : S.extract i j = bstr ((l.take j).drop i) := by
  subst h
  apply ByteArray.ext
  rw [ByteArray.data_extract]
  simp [bstr, List.drop_take]
theorem add_str {P : Program} {A B : ByteArray} {a b : List UInt8} (hA : A = bstr a) (hB : B = bstr b) (h : a.length + b.length ≤ 9223372036854775807) (w : World) : (Op.stringOp .add A B).run P w = .ok (.string (bstr (a ++ b))) w := by
  subst hA hB
  rw [run_string_add_sum (P := P) w (bstr a) (bstr b) h, bstr_app]
theorem str_cells (l : List UInt8) : Lib.strCells (bstr l) = l.map u8v := rfl
theorem bstr_inj {a b : List UInt8} (h : bstr a = bstr b) : a = b := by
  have := congrArg (fun x => x.data.toList) h
  simpa [bstr] using this
theorem str_ex (S : ByteArray) : ∃ l, S = bstr l := ⟨S.data.toList, by simp [bstr]⟩
/-- '[]byte(s)', read. -/
theorem rd_str {w : World} {S : ByteArray} {l : List UInt8} (h : S = bstr l) (cap : Nat) (e : TypeId) (fr : Nat × Nat) : BRd (w.drew.alloc (.cells (bytesRow S cap) e fr)) (some ⟨w.heap.size, 0, none⟩) l := by
  subst h
  refine .inr ⟨_, 0, rfl, by simp, fun k v hk => ?_⟩
  have hk' : k < l.length := by have := (List.getElem?_eq_some_iff.1 hk).1; simpa using this
  rw [Nat.zero_add]
  have := World.cell?_alloc_mark w.drew (bytesRow (bstr l) cap) e fr k
  rw [show w.drew.heap.size = w.heap.size from rfl] at this
  rw [this, bytesRow_at (bstr l) cap k (by simpa [bstr] using hk')]
  rw [← hk]
  simp [bstr, u8v, hk']
end Go.Proofs.YtbpkclopcoaikaaGreatDoor
namespace Go.Proofs.YtbpkclopcoaikaaGreatDoor
open Go.RowKit
set_option linter.unusedVariables false
theorem Rd.grown {w w' : World} {a : Option Addr} {xs : List Value} {row : Option Nat} (h : Rd w a xs) (hg : w.grownBy w' row) (hne : ∀ b, a = some b → some b.block ≠ row) : Rd w' a xs := by
  rcases h with rfl | ⟨b, o, rfl, hb, hc⟩
  · exact .inl rfl
  · exact .inr ⟨b, o, rfl, Nat.lt_of_lt_of_le hb hg.size, fun k v hv => (World.cell?_of_block (hg.block b hb (hne _ rfl))).trans (hc k v hv)⟩
section
variable {P : Program} {w : World}
theorem own_take {w : World} {base : Nat} {e : TypeId} {n : Nat} {g cap : Nat} {xs : List Value} (h : w.ownsRow base e 1 (.slice (some ⟨g, 0, none⟩) n cap) n xs) (k : Nat) : Rd w (some ⟨g, 0, none⟩) (xs.take k) := by
  obtain ⟨_, a, c, hv, _, hr, _⟩ := own_form h
  injection hv with h1 h2 h3
  subst h1
  exact hr.take k

theorem run_append_keep (base : Nat) (t ty e : TypeId) (i : TypeInfo) (z : Value) (bytes : Nat) (ht : P.underlying t = some (.slice e)) (hi : P.info? e = some i) (hz : i.zero = some z)
    (hsize : i.size = 1) (hby : i.bytes = bytes) (hzs : z.cells.size = 1)
    (a : Option Addr) (n c0 : Nat) (xs : List Value) (hown : w.ownsRow base e 1 (.slice a n c0) n xs)
    (A : Option Addr) (m c : Nat) (news : List Value) (hl : news.length = m) (hr : Rd w A news) (h1 : ∀ u ∈ news, u.oneCell' = true)
    (h63 : n + m ≤ maxLen) (hbytes : (n + m) * bytes ≤ 140737488355328) (hbase : base ≤ w.heap.size) :
    ∃ v' w', (Builtin.append_ #[t, t] ty #[.slice a n c0, .slice A m c]).run P w = .ok v' w' ∧ w'.ownsRow base e 1 v' (n + m) (xs ++ news) ∧ w.grownBy w' (Value.slice a n c0).ownBlock ∧
      (v'.ownBlock = (Value.slice a n c0).ownBlock ∨ v'.ownBlock = some w.heap.size) ∧ Rd w' a xs := by
  obtain ⟨v', w', hrun, h2, h3, h5⟩ := run_append_rd (P := P) w base t ty e i z 1 bytes ht hi hz hsize hby hzs (by omega) _ n xs hown A m c news (by omega) hr h1 h63 hbytes hbase
  refine ⟨v', w', hrun, h2, h3, h5, ?_⟩
  have hown0 := hown
  rcases hown.2 with ⟨hv, h0⟩ | ⟨g, cap, cur, hv, hb, hg, hn, hm, hs, htk⟩
  · have : xs = [] := List.eq_nil_of_length_eq_zero (by have := hown.1; omega)
    subst this
    exact .inl rfl
  · injection hv with ha _ hc
    subst ha
    subst hc
    have hgl : g < w.heap.size := (Array.getElem?_eq_some_iff.1 hg).1
    have inplace : v'.ownBlock = some g → Rd w' (some ⟨g, 0, none⟩) xs := by
      intro hv'
      rcases h2.2 with ⟨hz', _⟩ | ⟨g', cap', cur', hv2, _⟩
      · subst hz'; simp [Value.ownBlock] at hv'
      · subst hv2
        simp [Value.ownBlock] at hv'
        subst hv'
        have := own_take h2 xs.length
        rwa [List.take_left'] at this
        rfl
    rcases h5 with h5 | h5
    · exact inplace (by simpa [Value.ownBlock] using h5)
    · rcases A with _ | ad
      · have hn0 : news = [] := by
          rcases hr with h | ⟨b, o, h, _⟩
          · exact h
          · cases h
        have hm0 : m = 0 := by subst hn0; simpa using hl.symm
        subst hm0
        rw [run_append_nothing w base t ty e i 1 ht hi _ n xs hown0 c] at hrun
        injection hrun with e1 e2
        subst e2
        obtain ⟨_, a', c', hv, _, hr', _⟩ := own_form hown0
        injection hv with h1 h2 h3
        subst h1
        exact hr'
      · by_cases hroom : n + m ≤ c0
        · have := run_append_room_cells (P := P) (w := w) t ty e i ht hi g 0 n c0 ad m c news (by rw [hsize]; omega) (hr.cells ad rfl) h1 hroom
            (fun j hj => by
              rw [cell_of_row w g _ cur e (0, 0) hg]
              rw [Array.getElem?_eq_getElem (by rw [hs, hsize]; omega)]
              rfl)
            (fun j hj => by simp [World.frozen?, hg])
          rw [this] at hrun
          injection hrun with e1 e2
          subst e1
          exact inplace rfl
        · obtain ⟨v2, w2, hrun2, _, hg2⟩ := run_append_arg_grows (P := P) (w := w) t ty e i z 1 bytes ht hi hz hsize hby hzs (by omega) ⟨g, 0, none⟩ n c0 xs hown0.1
            (fun j u hj => by
              obtain ⟨_, a', c', hv, _, hr', _⟩ := own_form hown0
              injection hv with h1 h2 h3
              subst h1
              exact hr'.cells _ rfl j u hj) ad m c news (by omega) (hr.cells ad rfl) (by omega) h63 hbytes
          rw [hrun2] at hrun
          injection hrun with e1 e2
          subst e2
          obtain ⟨_, a', c', hv, _, hr', _⟩ := own_form hown0
          injection hv with h1 h2 h3
          subst h1
          exact hr'.keep hg2.size (fun p hp => World.cell?_of_block (hg2.block _ hp (by simp)))
theorem wpList_append_keep {ops : Array Oper} {rest : List Oper} {o : Oper} {ac : Act} {Q : Exit → Act → World → Prop} (hgd : o.guard = none) (s x : Operand) (t : TypeId)
    (ho : o.op = .call { callee := .builtin .append, args := #[s, x], argTypes := #[t, t] })
    (base : Nat) (e : TypeId) (i : TypeInfo) (z : Value) (bytes : Nat) (ht : P.underlying t = some (.slice e)) (hi : P.info? e = some i) (hz : i.zero = some z)
    (hsize : i.size = 1) (hby : i.bytes = bytes) (hzs : z.cells.size = 1)
    (a : Option Addr) (n c0 : Nat) (xs : List Value) (hs : ac.eval s = .slice a n c0) (hown : w.ownsRow base e 1 (.slice a n c0) n xs)
    (A : Option Addr) (m c : Nat) (news : List Value) (hx : ac.eval x = .slice A m c) (hl : news.length = m) (hr : Rd w A news) (h1 : ∀ u ∈ news, u.oneCell' = true)
    (h63 : n + m ≤ maxLen) (hbytes : (n + m) * bytes ≤ 140737488355328) (hbase : base ≤ w.heap.size)
    (h : ∀ v' w', w'.ownsRow base e 1 v' (n + m) (xs ++ news) → w.grownBy w' (Value.slice a n c0).ownBlock → Rd w' a xs → wpList P ops Q rest (ac.put o.dst v') w') : wpList P ops Q (o :: rest) ac w := by
  refine wpList_plain hgd fun K hK => ?_
  obtain ⟨v', w', hr', h2, h3, h4, h5⟩ := run_append_keep (P := P) base t o.type e i z bytes ht hi hz hsize hby hzs a n c0 xs hown A m c news hl hr h1 h63 hbytes hbase
  unfold Oper.wp execOp
  simp only [ho, resolve, invoke, builtin, Sem.run_bind, Sem.run_pure, Result.andThen_ok, List.map_toArray, List.map_cons, List.map_nil, hs, hx, hr']
  exact hK _ _ (h v' w' h2 h3 h5)
end
end Go.Proofs.YtbpkclopcoaikaaGreatDoor
