/- append: the old slice is still read behind it. Nothing of the program is named. -/
import Derived.Test.YtjpmfiicbokdcaaApp
import Derived.ArgAppend
namespace Go.Proofs.Ytjpmfiicbokdcaa
open Go.RowKit
set_option linter.unusedVariables false
theorem Rd.grown {w w' : World} {a : Option Addr} {xs : List Value} {row : Option Nat} (h : Rd w a xs) (hg : w.grownBy w' row) (hne : ∀ b, a = some b → some b.block ≠ row) : Rd w' a xs := by
  rcases h with rfl | ⟨b, o, rfl, hb, hc⟩
  · exact .inl rfl
  · exact .inr ⟨b, o, rfl, Nat.lt_of_lt_of_le hb hg.size, fun k v hv => (World.cell?_of_block (hg.block b hb (hne _ rfl))).trans (hc k v hv)⟩
section
variable {P : Program} {w : World}
theorem own_take {w : World} {base : Nat} {e : TypeId} {n : Nat} {g cap : Nat} {xs : List Value} (h : w.ownsRow base e 1 (.slice (some ⟨g, 0, none⟩) n cap) n xs) (k : Nat) : Rd w (some ⟨g, 0, none⟩) (xs.take k) := by
  obtain ⟨_, a, c, hv, _, hr, _⟩ := own_form h
  injection hv with h1 h2 h3
  subst h1
  exact hr.take k

theorem run_append_keep (base : Nat) (t ty e : TypeId) (i : TypeInfo) (z : Value) (bytes : Nat) (ht : P.underlying t = some (.slice e)) (hi : P.info? e = some i) (hz : i.zero = some z)
    (hsize : i.size = 1) (hby : i.bytes = bytes) (hzs : z.cells.size = 1)
    (a : Option Addr) (n c0 : Nat) (xs : List Value) (hown : w.ownsRow base e 1 (.slice a n c0) n xs)
    (A : Option Addr) (m c : Nat) (news : List Value) (hl : news.length = m) (hr : Rd w A news) (h1 : ∀ u ∈ news, u.oneCell' = true)
    (h63 : n + m ≤ maxLen) (hbytes : (n + m) * bytes ≤ 140737488355328) (hbase : base ≤ w.heap.size) :
    ∃ v' w', (Builtin.append_ #[t, t] ty #[.slice a n c0, .slice A m c]).run P w = .ok v' w' ∧ w'.ownsRow base e 1 v' (n + m) (xs ++ news) ∧ w.grownBy w' (Value.slice a n c0).ownBlock ∧
      (v'.ownBlock = (Value.slice a n c0).ownBlock ∨ v'.ownBlock = some w.heap.size) ∧ Rd w' a xs := by
  obtain ⟨v', w', hrun, h2, h3, h5⟩ := run_append_rd (P := P) w base t ty e i z 1 bytes ht hi hz hsize hby hzs (by omega) _ n xs hown A m c news (by omega) hr h1 h63 hbytes hbase
  refine ⟨v', w', hrun, h2, h3, h5, ?_⟩
  have hown0 := hown
  rcases hown.2 with ⟨hv, h0⟩ | ⟨g, cap, cur, hv, hb, hg, hn, hm, hs, htk⟩
  · have : xs = [] := List.eq_nil_of_length_eq_zero (by have := hown.1; omega)
    subst this
    exact .inl rfl
  · injection hv with ha _ hc
    subst ha
    subst hc
    have hgl : g < w.heap.size := (Array.getElem?_eq_some_iff.1 hg).1
    have inplace : v'.ownBlock = some g → Rd w' (some ⟨g, 0, none⟩) xs := by
      intro hv'
      rcases h2.2 with ⟨hz', _⟩ | ⟨g', cap', cur', hv2, _⟩
      · subst hz'; simp [Value.ownBlock] at hv'
      · subst hv2
        simp [Value.ownBlock] at hv'
        subst hv'
        have := own_take h2 xs.length
        rwa [List.take_left'] at this
        rfl
    rcases h5 with h5 | h5
    · exact inplace (by simpa [Value.ownBlock] using h5)
    · rcases A with _ | ad
      · have hn0 : news = [] := by
          rcases hr with h | ⟨b, o, h, _⟩
          · exact h
          · cases h
        have hm0 : m = 0 := by subst hn0; simpa using hl.symm
        subst hm0
        rw [run_append_nothing w base t ty e i 1 ht hi _ n xs hown0 c] at hrun
        injection hrun with e1 e2
        subst e2
        obtain ⟨_, a', c', hv, _, hr', _⟩ := own_form hown0
        injection hv with h1 h2 h3
        subst h1
        exact hr'
      · by_cases hroom : n + m ≤ c0
        · have := run_append_room_cells (P := P) (w := w) t ty e i ht hi g 0 n c0 ad m c news (by rw [hsize]; omega) (hr.cells ad rfl) h1 hroom
            (fun j hj => by
              rw [cell_of_row w g _ cur e (0, 0) hg]
              rw [Array.getElem?_eq_getElem (by rw [hs, hsize]; omega)]
              rfl)
            (fun j hj => by simp [World.frozen?, hg])
          rw [this] at hrun
          injection hrun with e1 e2
          subst e1
          exact inplace rfl
        · obtain ⟨v2, w2, hrun2, _, hg2⟩ := run_append_arg_grows (P := P) (w := w) t ty e i z 1 bytes ht hi hz hsize hby hzs (by omega) ⟨g, 0, none⟩ n c0 xs hown0.1
            (fun j u hj => by
              obtain ⟨_, a', c', hv, _, hr', _⟩ := own_form hown0
              injection hv with h1 h2 h3
              subst h1
              exact hr'.cells _ rfl j u hj) ad m c news (by omega) (hr.cells ad rfl) (by omega) h63 hbytes
          rw [hrun2] at hrun
          injection hrun with e1 e2
          subst e2
          obtain ⟨_, a', c', hv, _, hr', _⟩ := own_form hown0
          injection hv with h1 h2 h3
          subst h1
          exact hr'.keep hg2.size (fun p hp => World.cell?_of_block (hg2.block _ hp (by simp)))
theorem wpList_append_keep {ops : Array Oper} {rest : List Oper} {o : Oper} {ac : Act} {Q : Exit → Act → World → Prop} (hgd : o.guard = none) (s x : Operand) (t : TypeId)
    (ho : o.op = .call { callee := .builtin .append, args := #[s, x], argTypes := #[t, t] })
    (base : Nat) (e : TypeId) (i : TypeInfo) (z : Value) (bytes : Nat) (ht : P.underlying t = some (.slice e)) (hi : P.info? e = some i) (hz : i.zero = some z)
    (hsize : i.size = 1) (hby : i.bytes = bytes) (hzs : z.cells.size = 1)
    (a : Option Addr) (n c0 : Nat) (xs : List Value) (hs : ac.eval s = .slice a n c0) (hown : w.ownsRow base e 1 (.slice a n c0) n xs)
    (A : Option Addr) (m c : Nat) (news : List Value) (hx : ac.eval x = .slice A m c) (hl : news.length = m) (hr : Rd w A news) (h1 : ∀ u ∈ news, u.oneCell' = true)
    (h63 : n + m ≤ maxLen) (hbytes : (n + m) * bytes ≤ 140737488355328) (hbase : base ≤ w.heap.size)
    (h : ∀ v' w', w'.ownsRow base e 1 v' (n + m) (xs ++ news) → w.grownBy w' (Value.slice a n c0).ownBlock → Rd w' a xs → wpList P ops Q rest (ac.put o.dst v') w') : wpList P ops Q (o :: rest) ac w := by
  refine wpList_plain hgd fun K hK => ?_
  obtain ⟨v', w', hr', h2, h3, h4, h5⟩ := run_append_keep (P := P) base t o.type e i z bytes ht hi hz hsize hby hzs a n c0 xs hown A m c news hl hr h1 h63 hbytes hbase
  unfold Oper.wp execOp
  simp only [ho, resolve, invoke, builtin, Sem.run_bind, Sem.run_pure, Result.andThen_ok, List.map_toArray, List.map_cons, List.map_nil, hs, hx, hr']
  exact hK _ _ (h v' w' h2 h3 h5)
end
end Go.Proofs.Ytjpmfiicbokdcaa
