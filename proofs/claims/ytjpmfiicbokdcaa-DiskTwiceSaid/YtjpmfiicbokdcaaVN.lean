/- The plain laws of settled disks: a crash changes nothing. -/
import Derived.Test.YtjpmfiicbokdcaaVM
namespace Go.Proofs.Ytjpmfiicbokdcaa
set_option linter.unusedVariables false
set_option linter.unusedSimpArgs false
/-- Nothing is to be lost. -/
def settled (c : Dsk) : Prop := c.ops = [] ∧ c.dur = c.dir ∧ ∀ x ∈ c.inodes, x.2 = x.1.length
theorem choM_one (l : List Int) (i : Nat) : choM l i 1 = 0 := by
  have h := choM_range l i 1 (by omega)
  omega
theorem cutM_self (ch : List Int) (j : Nat) {e : Ent} (h : e.2 = e.1.length) : cutM ch j e = e := by
  obtain ⟨s, x⟩ := e
  simp only at h
  subst h
  have h1 : keptP ch j (s, (s.length : Int)) = 0 := by
    unfold keptP
    rw [show ((s.length : Int) - (s.length : Int) + 1) = 1 by omega]
    exact choM_one _ _
  have h2 : zeroP ch j (s, (s.length : Int)) = 0 := by
    unfold zeroP
    rw [h1, show min (0 : Int) 4 + 1 = 1 by decide]
    exact choM_one _ _
  unfold cutM
  rw [h1, h2]
  simp
theorem cutK_self (ch : List Int) (k : Nat) {l : List Ent} (h : ∀ e ∈ l, e.2 = e.1.length) : cutK ch k l = l := by
  apply List.ext_getElem?
  intro j
  rw [cutK_get]
  cases he : l[j]? with
  | none => rfl
  | some e =>
    rw [Option.map_some, cutM_self ch j (h e (List.mem_of_getElem? he))]
    split <;> rfl
theorem at_all {dir : List Ent} {n : Nat} (h : ∀ i, i < n → usedM dir i = true) : ∀ i, i ≤ n → atM dir i = i := by
  intro i hi
  unfold atM
  rw [List.countP_eq_length.2 (fun j hj => h j (by have := List.mem_range.1 hj; omega)), List.length_range]
theorem kept_all {dir : List Ent} : ∀ (l : List Ent) (a : Nat), (∀ i, i < a + l.length → usedM dir i = true) → keptM dir a l = l
  | [], _, _ => rfl
  | x :: l, a, h => by
    unfold keptM
    rw [if_pos (h a (by simp)), kept_all l (a + 1) (fun i hi => h i (by simp; omega))]
theorem used_all {c : Dsk} (h : validM c = true) (hs : settled c) : ∀ i, i < c.inodes.length → usedM c.dir i = true := by
  intro i hi
  obtain ⟨h1, h2, h3, h4, h5, h6⟩ := (valid_iff c).1 h
  have hx := h5 i _ (List.getElem?_eq_getElem hi)
  unfold inodeM at hx
  simp only [Bool.and_eq_true, Bool.or_eq_true, decide_eq_true_eq] at hx
  have hf : firstM c = c.inodes.length := by unfold firstM; rw [hs.1]; simp [creM]
  rw [hf] at hx
  unfold usedM
  rcases hx.1.1.1 with (hx | hx) | hx
  · omega
  · exact hx
  · rw [hs.2.1] at hx; exact hx
theorem set_self {c : Dsk} (h : validM c = true) (hs : settled c) : setM ⟨c.inodes, c.dir, c.dur, c.ops⟩ = c := by
  have hu := used_all h hs
  have hk : keptM c.dir 0 c.inodes = c.inodes := kept_all c.inodes 0 (fun i hi => hu i (by omega))
  have hm : movM c.dir = c.dir := by
    unfold movM
    conv => rhs; rw [← List.map_id c.dir]
    apply List.map_congr_left
    intro e he
    have hr := dirM_all ((valid_iff c).1 h).1 e he
    rw [at_all hu _ (by omega)]
    obtain ⟨s, x⟩ := e
    simp only [id]
    simp only at hr
    rw [Int.toNat_of_nonneg hr.1]
  unfold setM
  simp only
  rw [hk, hm]
  obtain ⟨i, d, u, o⟩ := c
  obtain ⟨h1, h2, -⟩ := hs
  simp only at h1 h2
  rw [h1, h2]
theorem crash_settled {c : Dsk} (h : validM c = true) (hs : settled c) (ch : List Int) : crashM c ch = c := by
  unfold crashM
  rw [if_pos h, cutK_self ch _ hs.2.2]
  have hr : (repM c.dur (firstM c) (c.ops.take (prefM c ch))).getD [] = c.dir := by
    rw [hs.1, List.take_nil]
    exact hs.2.1
  rw [hr]
  exact set_self h hs
theorem settled_nil : settled .nil := ⟨rfl, rfl, fun x hx => by cases hx⟩
theorem settled_set {d : Dsk} (h : ∀ x ∈ keptM d.dir 0 d.inodes, x.2 = x.1.length) : settled (setM d) := ⟨rfl, rfl, h⟩
theorem settled_crash (d : Dsk) (ch : List Int) : settled (crashM d ch) := by
  unfold crashM
  split
  · rename_i hv
    refine settled_set fun x hx => ?_
    simp only at hx
    have hx := kept_mem _ _ _ _ hx
    obtain ⟨j, hj, e⟩ := List.getElem_of_mem hx
    have hg := List.getElem?_eq_getElem hj
    rw [e, cutK_get] at hg
    rw [cutK_len] at hj
    rw [List.getElem?_eq_getElem hj, Option.map_some, if_pos hj] at hg
    injection hg with hg
    have hok := valid_okI hv _ (List.getElem_mem hj)
    rw [← hg, cutM_len hok.1 hok.2.1]
  · exact settled_nil
theorem crash_twice (d : Dsk) (ch more : List Int) : crashM (crashM d ch) more = crashM d ch := crash_settled (valid_crash d ch) (settled_crash d ch) more
/-! ### Files synchronised one after the other -/
theorem srt_name {l : List Ent} (h : Srt l) {e f : Ent} (he : e ∈ l) (hf : f ∈ l) (hn : e.1 = f.1) : e = f := by
  obtain ⟨i, hi, rfl⟩ := List.getElem_of_mem he
  obtain ⟨j, hj, rfl⟩ := List.getElem_of_mem hf
  rcases Nat.lt_trichotomy i j with h1 | h1 | h1
  · exact absurd hn (nlt_ne (List.pairwise_iff_getElem.1 h i j hi hj h1))
  · subst h1; rfl
  · exact absurd hn.symm (nlt_ne (List.pairwise_iff_getElem.1 h j i hj hi h1))
theorem has_of {l : List Ent} {e : Ent} (he : e ∈ l) : hasM l e.1 = true := List.any_eq_true.2 ⟨e, he, by simp⟩
theorem ino_of {l : List Ent} (h : Srt l) {e : Ent} (he : e ∈ l) : inoM l e.1 = e.2 := by
  obtain ⟨x, hx, hi⟩ := ino_mem (has_of he)
  have := srt_name h he hx rfl
  rw [hi, this]
theorem kept_used (dir : List Ent) : ∀ (l : List Ent) (a : Nat) (x : Ent), x ∈ keptM dir a l → ∃ i, usedM dir (a + i) = true ∧ l[i]? = some x
  | [], _, _, h => by simp [keptM] at h
  | y :: l, a, x, h => by
    unfold keptM at h
    split at h
    · rename_i hu
      rcases List.mem_cons.1 h with rfl | h
      · exact ⟨0, hu, rfl⟩
      · obtain ⟨i, h1, h2⟩ := kept_used dir l (a + 1) x h
        exact ⟨i + 1, by rw [show a + (i + 1) = a + 1 + i by omega]; exact h1, by simpa using h2⟩
    · obtain ⟨i, h1, h2⟩ := kept_used dir l (a + 1) x h
      exact ⟨i + 1, by rw [show a + (i + 1) = a + 1 + i by omega]; exact h1, by simpa using h2⟩
/-- The first k entries' files are durable. -/
def syn (d : Dsk) (k : Nat) (I : List Ent) : Prop := I.length = d.inodes.length ∧ validM ⟨I, d.dir, d.dur, d.ops⟩ = true ∧ ∀ j e, j < k → d.dir[j]? = some e → ∃ x, I[e.2.toNat]? = some x ∧ x.2 = x.1.length
theorem syn_zero {d : Dsk} (h : validM d = true) : syn d 0 d.inodes := ⟨rfl, h, fun j e hj => absurd hj (by omega)⟩
theorem syn_step {d : Dsk} {k : Nat} {I : List Ent} {e : Ent} (h : syn d k I) (he : d.dir[k]? = some e) : ∃ I', applyM ⟨I, d.dir, d.dur, d.ops⟩ (3, e.1, [], []) = (⟨I', d.dir, d.dur, d.ops⟩, 0) ∧ syn d (k + 1) I' := by
  obtain ⟨h1, h2, h3⟩ := h
  have hm := List.mem_of_getElem? he
  have hd := ((valid_iff _).1 h2).1
  simp only at hd
  have hr := dirM_all hd e hm
  have hi := ino_of (srt_dir hd) hm
  have ha : appM ⟨I, d.dir, d.dur, d.ops⟩ (3, e.1, [], []) = (⟨I.set e.2.toNat ((I.getD e.2.toNat ([], 0)).1, ((I.getD e.2.toNat ([], 0)).1.length : Int)), d.dir, d.dur, d.ops⟩, 0) := by
    unfold appM
    simp only
    rw [if_neg (by simp [fieldsM]), if_neg (by decide), if_pos (by decide), if_neg (by rw [has_of hm]; simp), if_pos trivial, hi]
  refine ⟨_, by unfold applyM; rw [if_pos h2]; exact ha, by simp [h1], ?_, ?_⟩
  · have := valid_app h2 (3, e.1, [], []) (by rw [ha])
    rw [ha] at this
    exact this
  · intro j f hj hf
    rw [List.getElem?_set]
    by_cases hef : e.2.toNat = f.2.toNat
    · rw [if_pos hef, if_pos (by omega)]
      exact ⟨_, rfl, rfl⟩
    · rw [if_neg hef]
      rcases Nat.lt_or_ge j k with h4 | h4
      · exact h3 j f h4 hf
      · obtain rfl : j = k := by omega
        rw [he] at hf; injection hf with hf; subst hf
        exact absurd rfl hef
theorem syn_all {d : Dsk} {k : Nat} {I : List Ent} (h : syn d k I) (hk : k = d.dir.length) : applyM ⟨I, d.dir, d.dur, d.ops⟩ (6, [], [], []) = (setM ⟨I, d.dir, d.dur, d.ops⟩, 0) ∧ settled (setM ⟨I, d.dir, d.dur, d.ops⟩) := by
  obtain ⟨h1, h2, h3⟩ := h
  constructor
  · unfold applyM
    rw [if_pos h2]
    unfold appM
    rw [if_neg (by simp [fieldsM]), if_pos rfl]
  · refine settled_set fun x hx => ?_
    simp only at hx
    obtain ⟨i, hu, hi⟩ := kept_used _ _ _ _ hx
    rw [Nat.zero_add] at hu
    unfold usedM at hu
    obtain ⟨e, he, hei⟩ := List.any_eq_true.1 hu
    obtain ⟨j, hj, rfl⟩ := List.getElem_of_mem he
    obtain ⟨y, hy, hyl⟩ := h3 j _ (by omega) (List.getElem?_eq_getElem hj)
    have : (d.dir[j]).2 = (i : Int) := by simpa using hei
    rw [this, Int.toNat_natCast, hi] at hy
    injection hy with hy
    rw [hy]; exact hyl
/-! ### Contents after a crash -/
def preB (s : List UInt8) (x : Ent) : Bool := decide (x.2 ≤ (s.length : Int)) && decide ((s.length : Int) ≤ x.1.length) && (s.take x.2.toNat == x.1.take x.2.toNat)
theorem cut_pre (ch : List Int) (j : Nat) {x : Ent} (h : okI x) : preB (cutM ch j x).1 x = true := by
  obtain ⟨h0, h1, h2⟩ := h
  obtain ⟨q0, q1, q2, q3, q4⟩ := cut_range (ch := ch) (j := j) (e := x) h0 h1
  have hl := cutM_len (ch := ch) (j := j) h0 h1
  have h3 : (cutM ch j x).2 = x.2 + keptP ch j x := rfl
  rw [h3] at hl
  unfold preB
  simp only [Bool.and_eq_true, decide_eq_true_eq, beq_iff_eq]
  refine ⟨⟨by omega, by omega⟩, ?_⟩
  unfold cutM
  simp only
  rw [List.take_append_of_le_length (by rw [List.length_take]; omega), List.take_take]
  congr 1
  omega
theorem crash_pre {d : Dsk} {ch : List Int} {n : List UInt8} (h : hasM (crashM d ch).dir n = true) : d.inodes.any (preB (readM (crashM d ch) n).1) = true := by
  have hv := valid_crash d ch
  have hr := ino_lt ((valid_iff _).1 hv).1 h
  have hs : (readM (crashM d ch) n).1 = ((crashM d ch).inodes.getD (inoM (crashM d ch).dir n).toNat ([], 0)).1 := by
    unfold readM; rw [hv, h]; rfl
  rw [hs]
  obtain ⟨i, hi⟩ : ∃ i, i = (inoM (crashM d ch).dir n).toNat := ⟨_, rfl⟩
  have hil : i < (crashM d ch).inodes.length := by omega
  rw [← hi]
  rw [List.getD_eq_getElem?_getD, List.getElem?_eq_getElem hil, Option.getD_some]
  have hm : (crashM d ch).inodes[i] ∈ (crashM d ch).inodes := List.getElem_mem hil
  revert hm
  generalize (crashM d ch).inodes[i] = y
  intro hm
  unfold crashM at hm
  split at hm
  · rename_i hd
    have hx := kept_mem _ _ _ _ hm
    obtain ⟨j, hj, e⟩ := List.getElem_of_mem hx
    have hg := List.getElem?_eq_getElem hj
    rw [e, cutK_get] at hg
    rw [cutK_len] at hj
    rw [List.getElem?_eq_getElem hj, Option.map_some, if_pos hj] at hg
    injection hg with hg
    refine List.any_eq_true.2 ⟨d.inodes[j], List.getElem_mem hj, ?_⟩
    rw [← hg]
    exact cut_pre ch j (valid_okI hd _ (List.getElem_mem hj))
  · cases hm
end Go.Proofs.Ytjpmfiicbokdcaa
