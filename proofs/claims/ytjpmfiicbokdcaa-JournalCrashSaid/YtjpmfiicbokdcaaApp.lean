/- append onto a slice of the call's own, whatever is appended: nil, empty or not. Nothing of the program is named here. -/
import Derived.Test.YtjpmfiicbokdcaaRegS
import Derived.Maps.AppendAt
import Derived.Laws.CopyOwn
import Derived.Laws.MakeOwn
namespace Go.Proofs.Ytjpmfiicbokdcaa
open Go.RowKit
set_option linter.unusedVariables false
set_option linter.unusedSimpArgs false

section
variable {P : Program} (w : World)

theorem run_append_nothing (base : Nat) (t ty e : TypeId) (i : TypeInfo) (size : Nat) (ht : P.underlying t = some (.slice e)) (hi : P.info? e = some i)
    (v : Value) (n : Nat) (xs : List Value) (hown : w.ownsRow base e size v n xs) (c : Nat) : (Builtin.append_ #[t, t] ty #[v, .slice none 0 c]).run P w = .ok v w := by
  rcases hown.2 with ⟨rfl, rfl⟩ | ⟨g, cap, cur, rfl, _, _, hnc, _⟩
  · simp [Builtin.append_, run_underlying ht, sizeOf, typeInfo, hi, Builtin.lenOf, Builtin.firstCells]
  · simp [Builtin.append_, run_underlying ht, sizeOf, typeInfo, hi, Builtin.lenOf, Builtin.firstCells, hnc, storeCells]

theorem run_append_rd (base : Nat) (t ty e : TypeId) (i : TypeInfo) (z : Value) (size bytes : Nat) (ht : P.underlying t = some (.slice e)) (hi : P.info? e = some i) (hz : i.zero = some z)
    (hsize : i.size = size) (hby : i.bytes = bytes) (hzs : z.cells.size = size) (hsz : 0 < size)
    (v : Value) (n : Nat) (xs : List Value) (hown : w.ownsRow base e size v n xs)
    (A : Option Addr) (m c : Nat) (news : List Value) (hl : news.length = m * size) (hr : Rd w A news) (h1 : ∀ u ∈ news, u.oneCell' = true)
    (h63 : n + m ≤ maxLen) (hbytes : (n + m) * bytes ≤ 140737488355328) (hbase : base ≤ w.heap.size) :
    ∃ v' w', (Builtin.append_ #[t, t] ty #[v, .slice A m c]).run P w = .ok v' w' ∧ w'.ownsRow base e size v' (n + m) (xs ++ news) ∧ w.grownBy w' v.ownBlock ∧
      (v'.ownBlock = v.ownBlock ∨ v'.ownBlock = some w.heap.size) := by
  rcases A with _ | ad
  · have hn : news = [] := by
      rcases hr with h | ⟨b, o, h, _⟩
      · exact h
      · cases h
    subst hn
    have hm : m = 0 := by
      rcases Nat.eq_zero_or_pos m with h0 | h0
      · exact h0
      · have := Nat.mul_pos h0 hsz; simp at hl; omega
    subst hm
    exact ⟨v, w, run_append_nothing w base t ty e i size ht hi v n xs hown c, by simpa using hown, World.grownBy.refl w _, .inl rfl⟩
  · obtain ⟨v', w', hrun, h2, h3, _, h5⟩ := run_append_own_at (P := P) w base t ty e i z size bytes ht hi hz hsize hby hzs hsz v n xs hown ad m c news hl (hr.cells ad rfl) h1 h63 hbytes hbase
    exact ⟨v', w', hrun, h2, h3, h5⟩

theorem wpList_append_rd {ops : Array Oper} {rest : List Oper} {o : Oper} {a : Act} {Q : Exit → Act → World → Prop} (hgd : o.guard = none) (s x : Operand) (t : TypeId)
    (ho : o.op = .call { callee := .builtin .append, args := #[s, x], argTypes := #[t, t] })
    (base : Nat) (e : TypeId) (i : TypeInfo) (z : Value) (size bytes : Nat) (ht : P.underlying t = some (.slice e)) (hi : P.info? e = some i) (hz : i.zero = some z)
    (hsize : i.size = size) (hby : i.bytes = bytes) (hzs : z.cells.size = size) (hsz : 0 < size)
    (v : Value) (n : Nat) (xs : List Value) (hs : a.eval s = v) (hown : w.ownsRow base e size v n xs)
    (A : Option Addr) (m c : Nat) (news : List Value) (hx : a.eval x = .slice A m c) (hl : news.length = m * size) (hr : Rd w A news) (h1 : ∀ u ∈ news, u.oneCell' = true)
    (h63 : n + m ≤ maxLen) (hbytes : (n + m) * bytes ≤ 140737488355328) (hbase : base ≤ w.heap.size)
    (h : ∀ v' w', w'.ownsRow base e size v' (n + m) (xs ++ news) → w.grownBy w' v.ownBlock → (v'.ownBlock = v.ownBlock ∨ v'.ownBlock = some w.heap.size) → wpList P ops Q rest (a.put o.dst v') w') : wpList P ops Q (o :: rest) a w := by
  refine wpList_plain hgd fun K hK => ?_
  obtain ⟨v', w', hr', h2, h3, h4⟩ := run_append_rd (P := P) w base t o.type e i z size bytes ht hi hz hsize hby hzs hsz v n xs hown A m c news hl hr h1 h63 hbytes hbase
  unfold Oper.wp execOp
  simp only [ho, resolve, invoke, builtin, Sem.run_bind, Sem.run_pure, Result.andThen_ok, List.map_toArray, List.map_cons, List.map_nil, hs, hx, hr']
  exact hK _ _ (h v' w' h2 h3 h4)
end

/-- 'make([]T, n, c)'. -/
theorem run_make_nc {P : Program} (t e : TypeId) (i : TypeInfo) (z : Value) (ht : P.underlying t = some (.slice e)) (hi : P.info? e = some i) (hz : i.zero = some z)
    (kl kc : IntKind) (n c : Nat) (hnc : n ≤ c) (hbytes : i.bytes * c ≤ 281474976710656) (h63 : c ≤ 9223372036854775807) (w : World) :
    (Instr.makeSlice t (.int kl (n : Int)) (.int kc (c : Int))).run P w = .ok (.slice (some ⟨w.heap.size, 0, none⟩) n c) (w.alloc (.cells (madeCells z.cells (c * i.size)) e)) := by
  have hb : (i.bytes : Int) * (c : Int) ≤ 281474976710656 := by
    have h : ((i.bytes * c : Nat) : Int) ≤ 281474976710656 := by omega
    rwa [Int.natCast_mul] at h
  have hr := run_make (P := P) w t e i z ht hi hz kl kc n c (by omega) (by omega) hb (by omega)
  simp only [Int.toNat_natCast] at hr
  exact hr
theorem made_arr (v : Value) (n : Nat) : madeCells #[v] n = (List.replicate n v).toArray := by
  apply Array.ext
  · simp [madeCells]
  · intro i h1 h2
    simp [madeCells, Nat.mod_one]
theorem one_u8 (c : UInt8) : ∀ u ∈ [u8v c], u.oneCell' = true := by
  intro u hu
  simp at hu; subst hu; rfl
/-- An empty row of the call's own: '[]T{}'. -/
theorem own_empty {w : World} {base g : Nat} {e : TypeId} {size : Nat} (hb : base ≤ g) (hg : w.heap[g]? = some (.cells #[] e (0, 0))) : w.ownsRow base e size (.slice (some ⟨g, 0, none⟩) 0 0) 0 [] :=
  ⟨by simp, .inr ⟨g, 0, #[], rfl, hb, hg, Nat.le_refl _, Nat.zero_le _, by simp, by simp⟩⟩

/-- What a fresh copy by append is: a property that lasts. -/
def FreshRow (base : Nat) (e : TypeId) (n : Nat) (xs : List Value) : Value → World → Prop := fun v w => base ≤ w.heap.size ∧ w.ownsRow base e 1 v n xs
theorem stab_fresh (base : Nat) (e : TypeId) (n : Nat) (xs : List Value) : Stab (.p (FreshRow base e n xs)) := fun u w w' hb ⟨h1, h2⟩ => ⟨Nat.le_trans h1 hb.size, own_below h2 hb⟩
/-- 'append([]T(nil), x...)' in a region. -/
theorem opS_append_nil {P : Program} {C : World → Prop} {F : List Slot} {o : Oper} (s x : Operand) (t : TypeId)
    (ho : o.op = .call { callee := .builtin .append, args := #[s, x], argTypes := #[t, t] })
    (base : Nat) (e : TypeId) (i : TypeInfo) (z : Value) (bytes : Nat) (ht : P.underlying t = some (.slice e)) (hi : P.info? e = some i) (hz : i.zero = some z)
    (hsize : i.size = 1) (hby : i.bytes = bytes) (hzs : z.cells.size = 1)
    (A : Option Addr) (m c : Nat) (news : List Value) (hl : news.length = m) (h1 : ∀ u ∈ news, u.oneCell' = true)
    (hs : opndS F s = .c (.slice none 0 0)) (hx : opndS F x = .c (.slice A m c))
    (hC : ∀ w, C w → Rd w A news ∧ base ≤ w.heap.size)
    (h63 : m ≤ maxLen) (hbytes : m * bytes ≤ 140737488355328) : opS P C F o (.p (FreshRow base e m news)) := by
  intro ev w hw hops
  have e1 : ev s = .slice none 0 0 := by
    have := hops s (by simp [ho, Op.operands, Call.operands])
    rwa [hs] at this
  have e2 : ev x = .slice A m c := by
    have := hops x (by simp [ho, Op.operands, Call.operands])
    rwa [hx] at this
  obtain ⟨hr, hb⟩ := hC w hw
  obtain ⟨v', w', hrun, h2, h3, h4⟩ := run_append_rd (P := P) w base t o.type e i z 1 bytes ht hi hz hsize hby hzs (by omega) (.slice none 0 0) 0 [] (World.ownsRow_nil w base e 1) A m c news (by omega) hr h1 (by omega) (by simpa using hbytes) hb
  unfold execOp
  simp only [ho, resolve, invoke, builtin, Sem.run_bind, Sem.run_pure, Result.andThen_ok, List.map_toArray, List.map_cons, List.map_nil, e1, e2, hrun]
  exact ⟨bl_grown (bl_refl w) h3 (fun k hk => by simp [Value.ownBlock] at hk), Nat.le_trans hb h3.size, by simpa using h2⟩
/-- A slot under a property, handed on. -/
theorem opS_assign_p {P : Program} {C : World → Prop} {F : List Slot} {o : Oper} (x : Operand) (ho : o.op = .assign x) (R : Value → World → Prop) (hx : opndS F x = .p R) : opS P C F o (.p R) := by
  intro ev w hw hops
  have h := hops x (by simp [ho, Op.operands])
  rw [hx] at h
  unfold execOp
  simp only [ho, Sem.run_pure]
  exact ⟨bl_refl w, h⟩
theorem opS_move_p {P : Program} {C : World → Prop} {F : List Slot} {o : Oper} (x : Operand) (ho : o.op = .move x) (R : Value → World → Prop) (hx : opndS F x = .p R) : opS P C F o (.p R) := by
  intro ev w hw hops
  have h := hops x (by simp [ho, Op.operands])
  rw [hx] at h
  unfold execOp
  simp only [ho, Sem.run_pure]
  exact ⟨bl_refl w, h⟩
/-- 'string(b)' of a slot that is a fresh copy. -/
theorem opS_str_fresh {P : Program} {C : World → Prop} {F : List Slot} {o : Oper} (x : Operand) (src dst e : TypeId) (ho : o.op = .convert src dst x)
    (hs : P.underlying src = some (.slice e)) (he : P.underlying e = some (.int .u8)) (hd : P.underlying dst = some .string) (base : Nat) (n : Nat) (l : List UInt8) (hx : opndS F x = .p (FreshRow base e n (l.map u8v))) : opS P C F o (.c (.string (bstr l))) := by
  intro ev w hw hops
  have h := hops x (by simp [ho, Op.operands])
  rw [hx] at h
  obtain ⟨_, hown⟩ := h
  obtain ⟨hn, a, c, hv, _, hr, _⟩ := own_form hown
  have := run_bytes_str (P := P) w src dst e a n c l hs he hd (by simpa using hn) hr
  unfold execOp
  simp only [ho, hv, Sem.run_bind, this, Result.andThen_ok, Sem.run_pure]
  exact ⟨bl_refl w, rfl⟩
end Go.Proofs.Ytjpmfiicbokdcaa
