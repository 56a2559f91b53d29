/- Slots of a drawn region: make, and an append to a full row. Nothing of the program is named. -/
import Derived.Test.YtbicpnhgokngeaaKeep
namespace Go.Proofs.Ytbicpnhgokngeaa
open Go.RowKit
set_option linter.unusedVariables false
section
variable {P : Program} {C : World → Prop} {F : List Slot} {o : Oper}
/-- A full row of the call's own: a property that lasts. -/
def FullRow (base : Nat) (e : TypeId) (n : Nat) (xs : List Value) : Value → World → Prop := fun v w => base ≤ w.heap.size ∧ (∃ a, v = .slice a n n) ∧ w.ownsRow base e 1 v n xs
theorem stab_full (base : Nat) (e : TypeId) (n : Nat) (xs : List Value) : Stab (.p (FullRow base e n xs)) := fun u w w' hb ⟨h1, h2, h3⟩ => ⟨Nat.le_trans h1 hb.size, h2, own_below h3 hb⟩
/-- 'make([]T, n)'. -/
theorem opS_make (x y : Operand) (t : TypeId) (ho : o.op = .makeSlice t x y) (base : Nat) (e : TypeId) (i : TypeInfo) (z : Value) (ht : P.underlying t = some (.slice e)) (hi : P.info? e = some i) (hz : i.zero = some z)
    (hsize : i.size = 1) (hc : z.cells = #[z]) (kl kc : IntKind) (n : Nat) (hx : opndS F x = .c (.int kl (n : Int))) (hy : opndS F y = .c (.int kc (n : Int))) (hbytes : i.bytes * n ≤ 281474976710656) (h63 : n ≤ maxLen)
    (hC : ∀ w, C w → base ≤ w.heap.size) : opS P C F o (.p (FullRow base e n (List.replicate n z))) := by
  intro ev w hw hops
  have e1 : ev x = .int kl (n : Int) := by
    have := hops x (by simp [ho, Op.operands])
    rwa [hx] at this
  have e2 : ev y = .int kc (n : Int) := by
    have := hops y (by simp [ho, Op.operands])
    rwa [hy] at this
  obtain ⟨w', hrun, r1, r2⟩ := run_make_full (P := P) w base t e i z 1 ht hi hz hsize kl kc n hbytes h63 (hC w hw)
  unfold execOp
  simp [ho, e1, e2, hrun, Result.andThen]
  refine ⟨bl_grown (bl_refl w) r2 (fun k h => by cases h), Nat.le_trans (hC w hw) r2.size, ⟨_, rfl⟩, ?_⟩
  have := r1
  rw [made_one z hc] at this
  exact this
/-- append to a full row: always a new one. -/
theorem opS_append_full (s x : Operand) (t : TypeId) (ho : o.op = .call { callee := .builtin .append, args := #[s, x], argTypes := #[t, t] })
    (base : Nat) (e : TypeId) (i : TypeInfo) (z : Value) (bytes : Nat) (ht : P.underlying t = some (.slice e)) (hi : P.info? e = some i) (hz : i.zero = some z)
    (hsize : i.size = 1) (hby : i.bytes = bytes) (hzs : z.cells.size = 1)
    (n m : Nat) (xs news : List Value) (hm : 0 < m) (h1 : ∀ u ∈ news, u.oneCell' = true)
    (hs : opndS F s = .p (FullRow base e n xs)) (hx : opndS F x = .p (FreshRow base e m news))
    (h63 : n + m ≤ maxLen) (hbytes : (n + m) * bytes ≤ 140737488355328) : opS P C F o (.p (FreshRow base e (n + m) (xs ++ news))) := by
  intro ev w hw hops
  have e1 := hops s (by simp [ho, Op.operands, Call.operands])
  have e2 := hops x (by simp [ho, Op.operands, Call.operands])
  rw [hs] at e1
  rw [hx] at e2
  obtain ⟨hb, ⟨a, ha⟩, hown⟩ := e1
  obtain ⟨_, hown2⟩ := e2
  obtain ⟨hm2, A, c, hA, _, hr, _⟩ := own_form hown2
  obtain ⟨hn2, a', c', ha', _, hr', _⟩ := own_form hown
  rw [ha] at ha'
  injection ha' with q1 q2 q3
  subst q1 q3
  have hrd : Rd w A news := hr
  obtain ⟨b, o', hAb, _, _⟩ := hrd.open_ (by omega)
  subst hAb
  have key : ∃ v' w', (Builtin.append_ #[t, t] o.type #[.slice a n n, .slice (some ⟨b, o', none⟩) m c]).run P w = .ok v' w' ∧ w'.ownsRow w.heap.size e 1 v' (n + m) (xs ++ news) ∧ w.grownBy w' none := by
    rcases a with _ | a
    · have hx0 : xs = [] := by
        rcases hr' with h | ⟨_, _, h, _⟩
        · exact h
        · cases h
      have hn0 : n = 0 := by subst hx0; simpa using hn2
      subst hx0
      subst hn0
      obtain ⟨v', w', hrun, h2, h3, h4⟩ := run_append_rd (P := P) w w.heap.size t o.type e i z 1 bytes ht hi hz hsize hby hzs (by omega) (.slice none 0 0) 0 [] (World.ownsRow_nil w _ e 1) _ m c news (by omega) hr h1 (by omega) (by simpa using hbytes) (Nat.le_refl _)
      exact ⟨v', w', hrun, h2, h3⟩
    · exact run_append_arg_grows (P := P) (w := w) t o.type e i z 1 bytes ht hi hz hsize hby hzs (by omega) a n n xs hown.1 (fun j u hj => hr'.cells _ rfl j u hj) ⟨b, o', none⟩ m c news (by omega) (hr.cells _ rfl) (by omega) h63 hbytes
  obtain ⟨v', w', hrun, h2, h3⟩ := key
  unfold execOp
  simp only [ho, resolve, invoke, builtin, Sem.run_bind, Sem.run_pure, Result.andThen_ok, List.map_toArray, List.map_cons, List.map_nil, ha, hA, hrun]
  exact ⟨bl_grown (bl_refl w) h3 (fun k hk => by cases hk), Nat.le_trans hb h3.size, own_base h2 hb⟩
end
end Go.Proofs.Ytbicpnhgokngeaa
