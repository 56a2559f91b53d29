/- The plain laws of valid disks: what an operation and a crash keep. -/
import Derived.Test.YtjpmfiicbokdcaaDpW
import Derived.Test.YtjpmfiicbokdcaaDwW
namespace Go.Proofs.Ytjpmfiicbokdcaa
set_option linter.unusedVariables false
set_option linter.unusedSimpArgs false
/-- A directory of inodes below nx. -/
def gd (nx : Int) (l : List Ent) : Prop := (∀ e ∈ l, vName e.1 = true ∧ 0 ≤ e.2 ∧ e.2 < nx) ∧ Srt l ∧ l.Pairwise fun e f => e.2 ≠ f.2
theorem gd_iff (n : Nat) (l : List Ent) : dirM n l = true ↔ gd n l := by
  unfold dirM gd Srt
  simp only [Bool.and_eq_true, decide_eq_true_eq, List.all_eq_true]
  constructor
  · rintro ⟨⟨h1, h2⟩, h3⟩
    exact ⟨fun e he => ⟨(h1 e he).1.1, (h1 e he).1.2, (h1 e he).2⟩, h2, h3⟩
  · rintro ⟨h1, h2, h3⟩
    exact ⟨⟨fun e he => ⟨⟨(h1 e he).1, (h1 e he).2.1⟩, (h1 e he).2.2⟩, h2⟩, h3⟩
theorem gd.mono {nx m : Int} {l : List Ent} (h : gd nx l) (hm : nx ≤ m) : gd m l := ⟨fun e he => ⟨(h.1 e he).1, (h.1 e he).2.1, by have := (h.1 e he).2.2; omega⟩, h.2⟩
theorem gd.sub {nx : Int} {l k : List Ent} (h : gd nx l) (hk : k.Sublist l) : gd nx k := ⟨fun e he => h.1 e (hk.subset he), h.2.1.sublist hk, h.2.2.sublist hk⟩
theorem drop_sub (l : List Ent) (s : List UInt8) : (dropM l s).Sublist l := List.filter_sublist
theorem ins_perm (l : List Ent) (x : Ent) : (insM l x).Perm (x :: l) := by
  unfold insM
  refine List.perm_middle.trans ?_
  rw [List.takeWhile_append_dropWhile]
theorem gd_ins {nx m : Int} {l : List Ent} {x : Ent} (h : gd nx l) (hv : vName x.1 = true) (hr : 0 ≤ x.2 ∧ x.2 < m) (hm : nx ≤ m) (hno : hasM l x.1 = false) (hni : ∀ e ∈ l, e.2 ≠ x.2) : gd m (insM l x) := by
  refine ⟨fun e he => ?_, srt_ins h.2.1 hno, ?_⟩
  · rcases mem_ins he with rfl | he
    · exact ⟨hv, hr⟩
    · exact (h.mono hm).1 e he
  · rw [(ins_perm l x).pairwise_iff (fun hab => Ne.symm hab)]
    rw [List.pairwise_cons]
    exact ⟨fun e he => Ne.symm (hni e he), h.2.2⟩
theorem gd_inj {nx : Int} {l : List Ent} (h : gd nx l) {e f : Ent} (he : e ∈ l) (hf : f ∈ l) (hef : e.2 = f.2) : e = f := by
  obtain ⟨i, hi, rfl⟩ := List.mem_iff_getElem.1 he
  obtain ⟨j, hj, rfl⟩ := List.mem_iff_getElem.1 hf
  have := List.pairwise_iff_getElem.1 h.2.2
  by_cases hij : i = j
  · subst hij; rfl
  · rcases Nat.lt_or_gt_of_ne hij with h1 | h1
    · exact absurd hef (this i j hi hj h1)
    · exact absurd hef.symm (this j i hj hi h1)
theorem ino_mem {l : List Ent} {s : List UInt8} (h : hasM l s = true) : ∃ x, (s, x) ∈ l ∧ inoM l s = x := by
  unfold inoM
  rcases hf : l.find? (fun e => e.1 == s) with _ | e
  · exfalso
    unfold hasM at h
    rw [List.any_eq_true] at h
    obtain ⟨e, he, hs⟩ := h
    exact List.find?_eq_none.1 hf e he hs
  · have h1 := List.mem_of_find?_eq_some hf
    have h2 := List.find?_some (p := fun (e : Ent) => e.1 == s) hf
    have h3 : e.1 = s := by simpa using h2
    exact ⟨e.2, by rw [← h3]; exact h1, by rw [hf]⟩
theorem gd_step {l : List Ent} {o : DOp} {nx : Int} (h : gd nx l) (hn : 0 ≤ nx) (h0 : (stepM l o nx).2 = 0) : gd (if o.1 = 1 then nx + 1 else nx) (stepM l o nx).1 := by
  obtain ⟨k, s, t, d⟩ := o
  unfold stepM at h0 ⊢
  simp only [] at h0 ⊢
  by_cases h1 : k = 1
  · rw [if_pos h1] at h0 ⊢
    rw [if_pos h1]
    split at h0
    · cases h0
    · rename_i ha
      rw [if_neg ha]
      split at h0
      · cases h0
      · rename_i hv
        rw [if_neg hv]
        split at h0
        · cases h0
        · rename_i hh
          rw [if_neg hh]
          exact gd_ins h (by simpa using hv) ⟨hn, by simp only []; omega⟩ (by omega) (by simpa using hh) (fun e he => by have := (h.1 e he).2.2; simp only []; omega)
  · rw [if_neg h1] at h0 ⊢
    rw [if_neg h1]
    by_cases h4 : k = 4
    · rw [if_pos h4] at h0 ⊢
      split at h0
      · cases h0
      · rename_i ha
        rw [if_neg ha]
        split at h0
        · cases h0
        · rename_i hh
          rw [if_neg hh]
          split at h0
          · cases h0
          · rename_i hv
            rw [if_neg hv]
            split at h0
            · cases h0
            · rename_i hne
              rw [if_neg hne]
              obtain ⟨x, hx, hix⟩ := ino_mem (show hasM l s = true by simpa using hh)
              have hg2 := h.sub ((drop_sub (dropM l s) t).trans (drop_sub l s))
              refine gd_ins hg2 (by simpa using hv) (by simp only []; rw [hix]; exact (h.1 _ hx).2) (Int.le_refl _) (drop_gone _ _) (fun e he hc => ?_)
              simp only [] at hc
              rw [hix] at hc
              have he1 := mem_drop he
              have := gd_inj h (mem_drop he1) hx hc
              have h5 := (List.mem_filter.1 he1).2
              rw [this] at h5
              simp at h5
    · rw [if_neg h4] at h0 ⊢
      by_cases h5 : k = 5
      · rw [if_pos h5] at h0 ⊢
        split at h0
        · cases h0
        · rename_i ha
          rw [if_neg ha]
          split at h0
          · cases h0
          · rename_i hh
            rw [if_neg hh]
            exact h.sub (drop_sub l s)
      · rw [if_neg h5] at h0
        cases h0
theorem gd_rep {os : List DOp} : ∀ {l : List Ent} {nx : Int} {r : List Ent}, gd nx l → 0 ≤ nx → repM l nx os = some r → gd (nx + (creM os : Nat)) r := by
  induction os with
  | nil =>
    intro l nx r h hn hr
    simp [repM] at hr
    subst hr
    simpa [creM] using h
  | cons o os ih =>
    intro l nx r h hn hr
    unfold repM at hr
    split at hr
    · rename_i h0
      have h1 := gd_step h hn h0
      have h2 := ih h1 (by split <;> omega) hr
      refine h2.mono ?_
      unfold creM
      rw [List.countP_cons]
      by_cases hk : o.1 = 1
      · rw [if_pos hk]; simp [hk]; omega
      · rw [if_neg hk]; simp [hk]
    · cases hr
/-- Where the inodes of a replayed directory come from. -/
def frm (D : List Ent) (b : Int) (l : List Ent) : Prop := ∀ e ∈ l, b ≤ e.2 ∨ ∃ f ∈ D, f.2 = e.2
theorem frm_step {D : List Ent} {b : Int} {l : List Ent} {o : DOp} {nx : Int} (h : frm D b l) (hn : b ≤ nx) : frm D b (stepM l o nx).1 := by
  intro e he
  unfold stepM at he
  split at he
  · split at he
    · cases he
    · split at he
      · cases he
      · split at he
        · cases he
        · rcases mem_ins he with rfl | he
          · exact .inl hn
          · exact h e he
  · split at he
    · split at he
      · cases he
      · split at he
        · cases he
        · rename_i hh
          split at he
          · cases he
          · split at he
            · cases he
            · rcases mem_ins he with rfl | he
              · obtain ⟨x, hx, hix⟩ := ino_mem (show hasM l o.2.1 = true by simpa using hh)
                simp only []
                rw [hix]
                exact h _ hx
              · exact h e (mem_drop (mem_drop he))
    · split at he
      · split at he
        · cases he
        · split at he
          · cases he
          · exact h e (mem_drop he)
      · cases he
theorem frm_rep {D : List Ent} {b : Int} {os : List DOp} : ∀ {l : List Ent} {nx : Int} {r : List Ent}, frm D b l → b ≤ nx → repM l nx os = some r → frm D b r := by
  induction os with
  | nil =>
    intro l nx r h hn hr
    simp [repM] at hr
    subst hr; exact h
  | cons o os ih =>
    intro l nx r h hn hr
    unfold repM at hr
    split at hr
    · exact ih (frm_step h hn) (by split <;> omega) hr
    · cases hr
theorem rep_app {os : List DOp} {o : DOp} : ∀ {l : List Ent} {nx : Int} {r : List Ent}, repM l nx os = some r → repM l nx (os ++ [o]) = if (stepM r o (nx + (creM os : Nat))).2 = 0 then some (stepM r o (nx + (creM os : Nat))).1 else none := by
  induction os with
  | nil =>
    intro l nx r hr
    simp [repM] at hr
    subst hr
    simp [repM, creM]
  | cons p os ih =>
    intro l nx r hr
    unfold repM at hr
    split at hr
    · rename_i h0
      have h1 := ih hr
      have e : ∀ z : Int, (if p.1 = 1 then nx + 1 else nx) + (creM os : Nat) = nx + (creM (p :: os) : Nat) := fun _ => by
        unfold creM
        rw [List.countP_cons]
        by_cases hk : p.1 = 1
        · rw [if_pos hk]; simp [hk]; omega
        · rw [if_neg hk]; simp [hk]
      rw [e 0] at h1
      rw [List.cons_append, repM, if_pos h0, h1]
    · cases hr
/-! ### What settling keeps -/
theorem at_mono (dir : List Ent) {i j : Nat} (h : i ≤ j) : atM dir i ≤ atM dir j := by
  induction h with
  | refl => exact Nat.le_refl _
  | step _ ih => rw [at_succ]; omega
theorem at_lt {dir : List Ent} {i j : Nat} (h : i < j) (hu : usedM dir i = true) : atM dir i < atM dir j := by
  have h1 := at_mono dir (show i + 1 ≤ j from h)
  rw [at_succ, hu, if_pos rfl] at h1
  omega
theorem at_surj (dir : List Ent) : ∀ (n p : Nat), p < atM dir n → ∃ i, i < n ∧ usedM dir i = true ∧ atM dir i = p
  | 0, p, h => by simp [atM] at h
  | n + 1, p, h => by
    rw [at_succ] at h
    by_cases hp : p < atM dir n
    · obtain ⟨i, h1, h2⟩ := at_surj dir n p hp
      exact ⟨i, by omega, h2⟩
    · cases hu : usedM dir n with
      | false => rw [hu] at h; simp at h; omega
      | true =>
        rw [hu, if_pos rfl] at h
        exact ⟨n, by omega, hu, by omega⟩
theorem kept_mem (dir : List Ent) : ∀ (l : List Ent) (a : Nat) (e : Ent), e ∈ keptM dir a l → e ∈ l
  | [], _, _, h => by simp [keptM] at h
  | x :: l, a, e, h => by
    unfold keptM at h
    split at h
    · rcases List.mem_cons.1 h with rfl | h
      · exact List.mem_cons_self
      · exact List.mem_cons_of_mem _ (kept_mem dir l (a + 1) e h)
    · exact List.mem_cons_of_mem _ (kept_mem dir l (a + 1) e h)
theorem kept_len_all (dir inodes : List Ent) : (keptM dir 0 inodes).length = atM dir inodes.length := by
  have := kept_len dir inodes inodes.length (Nat.le_refl _)
  rwa [List.take_of_length_le (Nat.le_refl _)] at this
/-- Contents of a file and its durable part. -/
def okI (x : Ent) : Prop := 0 ≤ x.2 ∧ x.2 ≤ x.1.length ∧ x.1.length ≤ 1048576
theorem mov_gd {d : Dsk} (h : dirM d.inodes.length d.dir = true) : gd ((keptM d.dir 0 d.inodes).length : Nat) (movM d.dir) := by
  have hg := (gd_iff _ _).1 h
  have hu : ∀ e ∈ d.dir, usedM d.dir e.2.toNat = true := fun e he => by
    unfold usedM
    rw [List.any_eq_true]
    exact ⟨e, he, by have := (hg.1 e he).2.1; simp; omega⟩
  rw [kept_len_all]
  unfold movM
  refine ⟨fun e he => ?_, ?_, ?_⟩
  · obtain ⟨f, hf, rfl⟩ := List.mem_map.1 he
    have h1 := hg.1 f hf
    refine ⟨h1.1, by simp only []; omega, ?_⟩
    have := at_lt (show f.2.toNat < d.inodes.length by omega) (hu f hf)
    simp only []
    omega
  · unfold Srt
    rw [List.pairwise_map]
    exact hg.2.1
  · rw [List.pairwise_map]
    refine List.Pairwise.imp_of_mem ?_ hg.2.2
    intro e f he hf hne hc
    simp only [] at hc
    have h1 := hg.1 e he
    have h2 := hg.1 f hf
    rcases Nat.lt_trichotomy e.2.toNat f.2.toNat with h3 | h3 | h3
    · have := at_lt h3 (hu e he); omega
    · exact hne (by omega)
    · have := at_lt h3 (hu f hf); omega
theorem set_valid {d : Dsk} (h : dirM d.inodes.length d.dir = true) (hi : ∀ x ∈ d.inodes, okI x) : validM (setM d) = true := by
  have hm := (gd_iff _ _).2 (mov_gd h)
  have hf : firstM (setM d) = ((keptM d.dir 0 d.inodes).length : Nat) := by simp [firstM, setM, creM]
  rw [valid_iff, hf]
  refine ⟨hm, hm, by omega, fun e he => ((mov_gd h).1 e he).2.2, fun i x hx => ?_, by simp [setM, repM]⟩
  have hil : i < (keptM d.dir 0 d.inodes).length := (List.getElem?_eq_some_iff.1 hx).1
  have ho := hi x (kept_mem _ _ _ _ (List.mem_of_getElem? hx))
  rw [kept_len_all] at hil
  obtain ⟨j, hj, hu, ha⟩ := at_surj d.dir _ i hil
  unfold usedM at hu
  rw [List.any_eq_true] at hu
  obtain ⟨e, he, hej⟩ := hu
  have hej : e.2 = (j : Int) := by simpa using hej
  unfold inodeM
  simp only [Bool.and_eq_true, Bool.or_eq_true, decide_eq_true_eq]
  refine ⟨⟨⟨.inl (.inr ?_), ho.1⟩, ho.2.1⟩, ho.2.2⟩
  show ((movM d.dir).any fun e => e.2 == (i : Int)) = true
  rw [List.any_eq_true]
  exact ⟨_, List.mem_map.2 ⟨e, he, rfl⟩, by simp [hej, ha]⟩
theorem valid_okI {d : Dsk} (h : validM d = true) : ∀ x ∈ d.inodes, okI x := by
  intro x hx
  obtain ⟨i, hi, rfl⟩ := List.mem_iff_getElem.1 hx
  have := ((valid_iff d).1 h).2.2.2.2.1 i _ (List.getElem?_eq_getElem hi)
  unfold inodeM at this
  simp only [Bool.and_eq_true, Bool.or_eq_true, decide_eq_true_eq] at this
  exact ⟨this.1.1.2, this.1.2, this.2⟩
theorem valid_setM {d : Dsk} (h : validM d = true) : validM (setM d) = true := set_valid ((valid_iff d).1 h).1 (valid_okI h)
/-- The contents of one file are others. -/
theorem valid_file {d : Dsk} (h : validM d = true) (i : Nat) (y : Ent) (hy : okI y) : validM ⟨d.inodes.set i y, d.dir, d.dur, d.ops⟩ = true := by
  obtain ⟨h1, h2, h3, h4, h5, h6⟩ := (valid_iff d).1 h
  have hf : firstM ⟨d.inodes.set i y, d.dir, d.dur, d.ops⟩ = firstM d := by simp [firstM]
  rw [valid_iff, hf]
  refine ⟨by simpa using h1, by simpa using h2, h3, h4, fun j x hx => ?_, h6⟩
  simp only [List.getElem?_set] at hx
  by_cases hij : i = j
  · subst hij
    rw [if_pos rfl] at hx
    split at hx
    · rename_i hl
      injection hx with hx
      subst hx
      have := h5 i _ (List.getElem?_eq_getElem hl)
      unfold inodeM at this ⊢
      simp only [Bool.and_eq_true, Bool.or_eq_true, decide_eq_true_eq] at this ⊢
      exact ⟨⟨⟨this.1.1.1, hy.1⟩, hy.2.1⟩, hy.2.2⟩
    · cases hx
  · rw [if_neg hij] at hx
    exact h5 j x hx
theorem first_ops {d : Dsk} (h : validM d = true) : firstM d + ((creM d.ops : Nat) : Int) = d.inodes.length := by unfold firstM; omega
/-- An operation of the directory. -/
theorem valid_dirop {d : Dsk} (h : validM d = true) (o : DOp) (h0 : (stepM d.dir o d.inodes.length).2 = 0) :
    validM ⟨if o.1 = 1 then d.inodes ++ [([], 0)] else d.inodes, (stepM d.dir o d.inodes.length).1, d.dur, d.ops ++ [o]⟩ = true := by
  obtain ⟨h1, h2, h3, h4, h5, h6⟩ := (valid_iff d).1 h
  have hn := first_ops h
  have hl : ((if o.1 = 1 then d.inodes ++ [([], 0)] else d.inodes).length : Int) = if o.1 = 1 then (d.inodes.length : Int) + 1 else d.inodes.length := by
    split <;> simp
  have hc : ((creM (d.ops ++ [o]) : Nat) : Int) = if o.1 = 1 then ((creM d.ops : Nat) : Int) + 1 else ((creM d.ops : Nat) : Int) := by
    unfold creM
    rw [List.countP_append, List.countP_singleton]
    by_cases hk : o.1 = 1
    · simp [hk]
    · simp [hk]
  have hf : firstM ⟨if o.1 = 1 then d.inodes ++ [([], 0)] else d.inodes, (stepM d.dir o d.inodes.length).1, d.dur, d.ops ++ [o]⟩ = firstM d := by
    unfold firstM
    simp only []
    rw [hl, hc]
    split <;> omega
  have hgs := gd_step ((gd_iff _ _).1 h1) (by omega) h0
  rw [← hl] at hgs
  have hge : (d.inodes.length : Int) ≤ ((if o.1 = 1 then d.inodes ++ [([], 0)] else d.inodes).length : Int) := by rw [hl]; split <;> omega
  rw [valid_iff, hf]
  refine ⟨(gd_iff _ _).2 hgs, (gd_iff _ _).2 (((gd_iff _ _).1 h2).mono hge), h3, h4, fun i x hx => ?_, ?_⟩
  · have hx' : d.inodes[i]? = some x ∨ ((d.inodes.length : Int) = i ∧ x = ([], 0)) := by
      simp only [] at hx
      by_cases hk : o.1 = 1
      · rw [if_pos hk, List.getElem?_append] at hx
        split at hx
        · exact .inl hx
        · rename_i hl2
          by_cases hi2 : i = d.inodes.length
          · subst hi2
            simp at hx
            exact .inr ⟨rfl, hx.symm⟩
          · rw [List.getElem?_eq_none (by simp; omega)] at hx
            cases hx
      · rw [if_neg hk] at hx
        exact .inl hx
    unfold inodeM
    simp only [Bool.and_eq_true, Bool.or_eq_true, decide_eq_true_eq]
    rcases hx' with hx' | ⟨hi, rfl⟩
    · have hok := h5 i x hx'
      unfold inodeM at hok
      simp only [Bool.and_eq_true, Bool.or_eq_true, decide_eq_true_eq] at hok
      refine ⟨⟨⟨?_, hok.1.1.2⟩, hok.1.2⟩, hok.2⟩
      by_cases hfi : firstM d ≤ i
      · exact .inl (.inl hfi)
      · right
        rcases hok.1.1.1 with (h7 | h7) | h7
        · exact absurd h7 hfi
        · obtain ⟨e, he, hei⟩ := List.any_eq_true.1 h7
          have hei' : e.2 = (i : Int) := by simpa using hei
          have hfr : frm d.dur (firstM d) d.dir := frm_rep (D := d.dur) (l := d.dur) (fun e he => .inr ⟨e, he, rfl⟩) (Int.le_refl _) h6
          rcases hfr e he with h8 | ⟨f, hf1, hf2⟩
          · omega
          · exact List.any_eq_true.2 ⟨f, hf1, by simp [hf2, hei']⟩
        · exact h7
    · refine ⟨⟨⟨.inl (.inl ?_), Int.le_refl _⟩, by simp⟩, by simp⟩
      have : 0 ≤ ((creM d.ops : Nat) : Int) := by omega
      omega
  · rw [rep_app h6, hn, if_pos h0]
theorem inode_getD {d : Dsk} (h : validM d = true) (i : Nat) : okI (d.inodes.getD i ([], 0)) := by
  rw [List.getD_eq_getElem?_getD]
  rcases hx : d.inodes[i]? with _ | x
  · exact ⟨Int.le_refl _, by simp, by simp⟩
  · exact valid_okI h x (List.mem_of_getElem? hx)
/-- What an operation yields is valid. -/
theorem valid_app {d : Dsk} (h : validM d = true) (o : DOp) (h0 : (appM d o).2 = 0) : validM (appM d o).1 = true := by
  unfold appM at h0 ⊢
  split at h0
  · cases h0
  · rename_i hf
    rw [if_neg hf]
    split at h0
    · rename_i h6
      rw [if_pos h6]
      exact valid_setM h
    · rename_i h6
      rw [if_neg h6]
      split at h0
      · rename_i h23
        rw [if_pos h23]
        split at h0
        · cases h0
        · rename_i hh
          rw [if_neg hh]
          have hi := inode_getD h (inoM d.dir o.2.1).toNat
          simp only [] at h0 ⊢
          split at h0
          · rename_i h3
            rw [if_pos h3]
            exact valid_file h _ _ ⟨by simp only []; omega, Int.le_refl _, hi.2.2⟩
          · rename_i h3
            rw [if_neg h3]
            split at h0
            · cases h0
            · rename_i hl
              rw [if_neg hl]
              refine valid_file h _ _ ⟨hi.1, ?_, ?_⟩
              · simp only [List.length_append]; have := hi.2.1; omega
              · simp only [List.length_append]; omega
      · rename_i h23
        rw [if_neg h23]
        split at h0
        · rename_i hs
          exact absurd h0 hs
        · rename_i hs
          rw [if_neg hs]
          exact valid_dirop h o (by simpa using hs)
theorem valid_nil : validM .nil = true := by decide
/-- A crash yields a valid disk. -/
theorem valid_crash (d : Dsk) (ch : List Int) : validM (crashM d ch) = true := by
  unfold crashM
  split
  · rename_i h
    obtain ⟨h1, h2, h3, h4, h5, h6⟩ := (valid_iff d).1 h
    obtain ⟨l, hl, -, -⟩ := pref_ok h (prefM d ch)
    have hg := gd_rep (((gd_iff _ _).1 h2) |> fun g => (⟨fun e he => ⟨(g.1 e he).1, (g.1 e he).2.1, h4 e he⟩, g.2⟩ : gd (firstM d) d.dur)) h3 hl
    have hc : creM (d.ops.take (prefM d ch)) ≤ creM d.ops := by unfold creM; exact (List.take_sublist _ d.ops).countP_le
    have hn := first_ops h
    rw [hl]
    refine set_valid ?_ ?_
    · simp only [Option.getD_some, cutK_len]
      exact (gd_iff _ _).2 (hg.mono (by omega))
    · intro x hx
      obtain ⟨j, hj, rfl⟩ := List.mem_iff_getElem.1 hx
      have hje := List.getElem?_eq_getElem hj
      simp only [] at hje
      rw [cutK_get] at hje
      have hjl : j < d.inodes.length := by simpa [cutK_len] using hj
      rw [List.getElem?_eq_getElem hjl, Option.map_some, if_pos hjl] at hje
      injection hje with hje
      have ho := valid_okI h _ (List.getElem_mem hjl)
      have hr := cut_range (ch := ch) (j := j) (e := d.inodes[j]) ho.1 ho.2.1
      have hcl := cutM_len (ch := ch) (j := j) (e := d.inodes[j]) ho.1 ho.2.1
      simp only []
      rw [← hje]
      have h2' : (cutM ch j d.inodes[j]).2 = d.inodes[j].2 + keptP ch j d.inodes[j] := rfl
      refine ⟨by rw [h2']; have := ho.1; omega, by omega, by have := ho.2.2; omega⟩
  · exact valid_nil
end Go.Proofs.Ytjpmfiicbokdcaa
