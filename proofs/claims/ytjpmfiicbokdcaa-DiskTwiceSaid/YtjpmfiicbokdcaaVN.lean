/- The plain laws of settled disks: a crash changes nothing. -/
import Derived.Test.YtjpmfiicbokdcaaVM
namespace Go.Proofs.Ytjpmfiicbokdcaa
set_option linter.unusedVariables false
set_option linter.unusedSimpArgs false
/-- Nothing is to be lost. -/
def settled (c : Dsk) : Prop := c.ops = [] ∧ c.dur = c.dir ∧ ∀ x ∈ c.inodes, x.2 = x.1.length
theorem choM_one (l : List Int) (i : Nat) : choM l i 1 = 0 := by
  have h := choM_range l i 1 (by omega)
  omega
theorem cutM_self (ch : List Int) (j : Nat) {e : Ent} (h : e.2 = e.1.length) : cutM ch j e = e := by
  obtain ⟨s, x⟩ := e
  simp only at h
  subst h
  have h1 : keptP ch j (s, (s.length : Int)) = 0 := by
    unfold keptP
    rw [show ((s.length : Int) - (s.length : Int) + 1) = 1 by omega]
    exact choM_one _ _
  have h2 : zeroP ch j (s, (s.length : Int)) = 0 := by
    unfold zeroP
    rw [h1, show min (0 : Int) 4 + 1 = 1 by decide]
    exact choM_one _ _
  unfold cutM
  rw [h1, h2]
  simp
theorem cutK_self (ch : List Int) (k : Nat) {l : List Ent} (h : ∀ e ∈ l, e.2 = e.1.length) : cutK ch k l = l := by
  apply List.ext_getElem?
  intro j
  rw [cutK_get]
  cases he : l[j]? with
  | none => rfl
  | some e =>
    rw [Option.map_some, cutM_self ch j (h e (List.mem_of_getElem? he))]
    split <;> rfl
theorem at_all {dir : List Ent} {n : Nat} (h : ∀ i, i < n → usedM dir i = true) : ∀ i, i ≤ n → atM dir i = i := by
  intro i hi
  unfold atM
  rw [List.countP_eq_length.2 (fun j hj => h j (by have := List.mem_range.1 hj; omega)), List.length_range]
theorem kept_all {dir : List Ent} : ∀ (l : List Ent) (a : Nat), (∀ i, i < a + l.length → usedM dir i = true) → keptM dir a l = l
  | [], _, _ => rfl
  | x :: l, a, h => by
    unfold keptM
    rw [if_pos (h a (by simp)), kept_all l (a + 1) (fun i hi => h i (by simp; omega))]
theorem used_all {c : Dsk} (h : validM c = true) (hs : settled c) : ∀ i, i < c.inodes.length → usedM c.dir i = true := by
  intro i hi
  obtain ⟨h1, h2, h3, h4, h5, h6⟩ := (valid_iff c).1 h
  have hx := h5 i _ (List.getElem?_eq_getElem hi)
  unfold inodeM at hx
  simp only [Bool.and_eq_true, Bool.or_eq_true, decide_eq_true_eq] at hx
  have hf : firstM c = c.inodes.length := by unfold firstM; rw [hs.1]; simp [creM]
  rw [hf] at hx
  unfold usedM
  rcases hx.1.1.1 with (hx | hx) | hx
  · omega
  · exact hx
  · rw [hs.2.1] at hx; exact hx
theorem set_self {c : Dsk} (h : validM c = true) (hs : settled c) : setM ⟨c.inodes, c.dir, c.dur, c.ops⟩ = c := by
  have hu := used_all h hs
  have hk : keptM c.dir 0 c.inodes = c.inodes := kept_all c.inodes 0 (fun i hi => hu i (by omega))
  have hm : movM c.dir = c.dir := by
    unfold movM
    conv => rhs; rw [← List.map_id c.dir]
    apply List.map_congr_left
    intro e he
    have hr := dirM_all ((valid_iff c).1 h).1 e he
    rw [at_all hu _ (by omega)]
    obtain ⟨s, x⟩ := e
    simp only [id]
    simp only at hr
    rw [Int.toNat_of_nonneg hr.1]
  unfold setM
  simp only
  rw [hk, hm]
  obtain ⟨i, d, u, o⟩ := c
  obtain ⟨h1, h2, -⟩ := hs
  simp only at h1 h2
  rw [h1, h2]
theorem crash_settled {c : Dsk} (h : validM c = true) (hs : settled c) (ch : List Int) : crashM c ch = c := by
  unfold crashM
  rw [if_pos h, cutK_self ch _ hs.2.2]
  have hr : (repM c.dur (firstM c) (c.ops.take (prefM c ch))).getD [] = c.dir := by
    rw [hs.1, List.take_nil]
    exact hs.2.1
  rw [hr]
  exact set_self h hs
theorem settled_nil : settled .nil := ⟨rfl, rfl, fun x hx => by cases hx⟩
theorem settled_set {d : Dsk} (h : ∀ x ∈ keptM d.dir 0 d.inodes, x.2 = x.1.length) : settled (setM d) := ⟨rfl, rfl, h⟩
theorem settled_crash (d : Dsk) (ch : List Int) : settled (crashM d ch) := by
  unfold crashM
  split
  · rename_i hv
    refine settled_set fun x hx => ?_
    simp only at hx
    have hx := kept_mem _ _ _ _ hx
    obtain ⟨j, hj, e⟩ := List.getElem_of_mem hx
    have hg := List.getElem?_eq_getElem hj
    rw [e, cutK_get] at hg
    rw [cutK_len] at hj
    rw [List.getElem?_eq_getElem hj, Option.map_some, if_pos hj] at hg
    injection hg with hg
    have hok := valid_okI hv _ (List.getElem_mem hj)
    rw [← hg, cutM_len hok.1 hok.2.1]
  · exact settled_nil
theorem crash_twice (d : Dsk) (ch more : List Int) : crashM (crashM d ch) more = crashM d ch := crash_settled (valid_crash d ch) (settled_crash d ch) more
end Go.Proofs.Ytjpmfiicbokdcaa
