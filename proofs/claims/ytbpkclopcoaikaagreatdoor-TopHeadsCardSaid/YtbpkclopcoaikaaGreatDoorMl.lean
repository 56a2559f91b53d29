/- The walk of treelabel's visit: the labels of the nodes of a tree. The walk of treelabel's visit: the labels of the nodes of a tree. A family of rows of ints that grow, each of the call's own, pairwise apart. The walk of treelabel.check, at a forest. -/
import Derived.Test.YtbpkclopcoaikaaGreatDoorMc
import Derived.Test.YtbpkclopcoaikaaGreatDoorMb
namespace Go.Proofs.YtbpkclopcoaikaaGreatDoor
open Go.RowKit
set_option linter.unusedVariables false
set_option linter.unusedSimpArgs false
def nats (l : List Nat) : List Int := l.map fun (k : Nat) => (k : Int)
/-- The walker's memory: its own block, the labels' row, the children's rows. -/
structure VSt (W cb lb n : Nat) (p : List Int) (Lc : List Int) (a b : Nat) (w : World) : Prop where
  hw : w.heap[W]? = some (.cells #[.slice (some ⟨cb, 0, none⟩) n n, .slice (some ⟨lb, 0, none⟩) n n, .int .i64 (a : Int), .int .i64 (b : Int)] 61 (0, 0))
  hl : w.heap[lb]? = some (.cells (Lc.map iv).toArray 43 (0, 0))
  len : Lc.length = 3 * n
  ch : ∀ i, i < n → ∃ A m c, w.cell? ⟨cb, i, none⟩ = some (.slice A m c) ∧ IsI w A m (nats (chil p i)) ∧ ∀ x, A = some x → x.block ≠ W ∧ x.block ≠ lb
  ne : W ≠ lb ∧ cb ≠ W ∧ cb ≠ lb
/-- Only the walker's block and the labels' row were changed. -/
structure VT (W lb : Nat) (w w' : World) : Prop where
  os : w'.os = w.os
  tape : w'.tape = w.tape
  output : w'.output = w.output
  size : w'.heap.size = w.heap.size
  block : ∀ k, k ≠ W → k ≠ lb → w'.heap[k]? = w.heap[k]?
theorem VT.refl (W lb : Nat) (w : World) : VT W lb w w := ⟨rfl, rfl, rfl, rfl, fun _ _ _ => rfl⟩
theorem VT.trans {W lb : Nat} {w w' w'' : World} (h : VT W lb w w') (k : VT W lb w' w'') : VT W lb w w'' := ⟨k.os.trans h.os, k.tape.trans h.tape, k.output.trans h.output, k.size.trans h.size, fun i h1 h2 => (k.block i h1 h2).trans (h.block i h1 h2)⟩
theorem VT.set (W lb : Nat) (w : World) (p : Addr) (v : Value) (hp : p.block = W ∨ p.block = lb) : VT W lb w (w.setCell p v) :=
  ⟨rfl, rfl, rfl, by simp [World.setCell], fun k h1 h2 => heap_setCell_other w p k _ (fun e => by rcases hp with hp | hp <;> rw [hp] at e <;> first | exact h1 e | exact h2 e)⟩
theorem VT.drew (W lb : Nat) (w : World) : VT W lb w w.drew := ⟨rfl, rfl, rfl, rfl, fun _ _ _ => rfl⟩
theorem Rd.vt {W lb : Nat} {w w' : World} {a : Option Addr} {xs : List Value} (h : Rd w a xs) (hv : VT W lb w w') (hn : ∀ x, a = some x → x.block ≠ W ∧ x.block ≠ lb) : Rd w' a xs := by
  rcases h with rfl | ⟨b, o, rfl, hb, hc⟩
  · exact .inl rfl
  · refine .inr ⟨b, o, rfl, by rw [hv.size]; exact hb, fun k v hk => ?_⟩
    rw [← hc k v hk]
    exact World.cell?_of_block (hv.block b (hn _ rfl).1 (hn _ rfl).2)
theorem VSt.chvt {W cb lb n : Nat} {p Lc : List Int} {a b : Nat} {w w' : World} (h : VSt W cb lb n p Lc a b w) (hv : VT W lb w w') : ∀ i, i < n → ∃ A m c, w'.cell? ⟨cb, i, none⟩ = some (.slice A m c) ∧ IsI w' A m (nats (chil p i)) ∧ ∀ x, A = some x → x.block ≠ W ∧ x.block ≠ lb := by
  intro i hi
  obtain ⟨A, m, c, h1, h2, h3⟩ := h.ch i hi
  exact ⟨A, m, c, by rw [← h1]; exact World.cell?_of_block (hv.block cb h.ne.2.1 h.ne.2.2), ⟨h2.1, h2.2.vt hv h3⟩, h3⟩
theorem VSt.drew {W cb lb n : Nat} {p Lc : List Int} {a b : Nat} {w : World} (h : VSt W cb lb n p Lc a b w) : VSt W cb lb n p Lc a b w.drew := ⟨h.hw, h.hl, h.len, h.chvt (VT.drew W lb w), h.ne⟩
theorem VSt.setl {W cb lb n : Nat} {p Lc : List Int} {a b : Nat} {w : World} (h : VSt W cb lb n p Lc a b w) (j : Nat) (x : Int) : VSt W cb lb n p (Lc.set j x) a b (w.setCell ⟨lb, j, none⟩ (iv x)) := by
  refine ⟨?_, ?_, by simpa using h.len, h.chvt (VT.set W lb w _ _ (.inr rfl)), h.ne⟩
  · rw [heap_setCell_other w ⟨lb, j, none⟩ W _ h.ne.1]; exact h.hw
  · have hl := h.hl
    simp [World.setCell, Array.getElem?_modify, hl, List.map_set]
theorem VSt.setp {W cb lb n : Nat} {p Lc : List Int} {a b : Nat} {w : World} (h : VSt W cb lb n p Lc a b w) : VSt W cb lb n p Lc (a + 1) b (w.setCell ⟨W, 2, none⟩ (.int .i64 ((a : Int) + 1))) := by
  refine ⟨?_, ?_, h.len, h.chvt (VT.set W lb w _ _ (.inl rfl)), h.ne⟩
  · have hw := h.hw
    simp [World.setCell, Array.getElem?_modify, hw]
  · rw [heap_setCell_other w ⟨W, 2, none⟩ lb _ (Ne.symm h.ne.1)]; exact h.hl
theorem VSt.setq {W cb lb n : Nat} {p Lc : List Int} {a b : Nat} {w : World} (h : VSt W cb lb n p Lc a b w) : VSt W cb lb n p Lc a (b + 1) (w.setCell ⟨W, 3, none⟩ (.int .i64 ((b : Int) + 1))) := by
  refine ⟨?_, ?_, h.len, h.chvt (VT.set W lb w _ _ (.inl rfl)), h.ne⟩
  · have hw := h.hw
    simp [World.setCell, Array.getElem?_modify, hw]
  · rw [heap_setCell_other w ⟨W, 3, none⟩ lb _ (Ne.symm h.ne.1)]; exact h.hl
theorem VSt.cells {W cb lb n : Nat} {p Lc : List Int} {a b : Nat} {w : World} (h : VSt W cb lb n p Lc a b w) : w.cell? ⟨W, 0, none⟩ = some (.slice (some ⟨cb, 0, none⟩) n n) ∧ w.cell? ⟨W, 1, none⟩ = some (.slice (some ⟨lb, 0, none⟩) n n) ∧ w.cell? ⟨W, 2, none⟩ = some (.int .i64 (a : Int)) ∧ w.cell? ⟨W, 3, none⟩ = some (.int .i64 (b : Int)) :=
  ⟨cell_of_row w W 0 _ _ _ h.hw, cell_of_row w W 1 _ _ _ h.hw, cell_of_row w W 2 _ _ _ h.hw, cell_of_row w W 3 _ _ _ h.hw⟩
theorem VSt.fr {W cb lb n : Nat} {p Lc : List Int} {a b : Nat} {w : World} (h : VSt W cb lb n p Lc a b w) (j : Nat) : w.frozen? ⟨W, j, none⟩ = false ∧ w.frozen? ⟨lb, j, none⟩ = false := by
  have h1 := h.hw
  have h2 := h.hl
  constructor <;> simp [World.frozen?, h1, h2]
theorem VSt.lcell {W cb lb n : Nat} {p Lc : List Int} {a b : Nat} {w : World} (h : VSt W cb lb n p Lc a b w) {j : Nat} (hj : j < 3 * n) : ∃ x, w.cell? ⟨lb, j, none⟩ = some (.int .i64 x) := by
  have h2 := cell_of_row w lb j _ _ _ h.hl
  have : j < Lc.length := by rw [h.len]; exact hj
  refine ⟨Lc[j], ?_⟩
  rw [h2]
  simp [this]
  rfl
/-- A drawn region whose operation s stores. -/
def GSt (s : Nat) (W : World) (p : Addr) (v : Value) : (Nat → Bool) → World → Prop := fun L w => (L s = false → w = W) ∧ (L s = true → w = W.setCell p v)
theorem GSt.same {s : Nat} {W : World} {p : Addr} {v : Value} {L : Nat → Bool} {w : World} (h : GSt s W p v L w) {i : Nat} (hi : i ≠ s) : GSt s W p v (upL L i) w := by
  unfold GSt upL at *
  rw [if_neg (Ne.symm hi)]
  exact h
theorem GSt.store {s : Nat} {W : World} {p : Addr} {v : Value} {L : Nat → Bool} {w : World} (h : GSt s W p v L w) (h6 : L s = false) : GSt s W p v (upL L s) (w.setCell p v) := by
  unfold GSt upL at *
  rw [if_pos rfl]
  exact ⟨fun e => (by cases e), fun _ => by rw [h.1 h6]⟩
end Go.Proofs.YtbpkclopcoaikaaGreatDoor
namespace Go.Proofs.YtbpkclopcoaikaaGreatDoor
open Go.RowKit
set_option linter.unusedVariables false
set_option linter.unusedSimpArgs false
/-- The label of a node, in its three cells. -/
def Fin3 (p : List Int) (r : Nat → Nat) (Lc : List Int) (k : Nat) : Prop := Lc[k * 3 + 0]? = some (preN p r k : Int) ∧ Lc[k * 3 + 1]? = some (postN p r k : Int) ∧ Lc[k * 3 + 2]? = some (r k : Int)
theorem GSt.vst {W cb lb n : Nat} {p Lc : List Int} {a b : Nat} {w wx : World} {s j : Nat} {x : Int} {L : Nat → Bool} (hG : GSt s w ⟨lb, j, none⟩ (iv x) L wx) (h : VSt W cb lb n p Lc a b w) : ∃ Lc', VSt W cb lb n p Lc' a b wx := by
  cases hs : L s with
  | false => rw [hG.1 hs]; exact ⟨_, h⟩
  | true => rw [hG.2 hs]; exact ⟨_, h.setl j x⟩
theorem PRE_len {p : List Int} {r : Nat → Nat} (hF : Forest p r) : (PRE p (fuelF p r)).length = p.length := by
  have h : (PRE p (fuelF p r)).Perm (List.range p.length) := by
    rw [List.perm_ext_iff_of_nodup (nodup_PRE hF (roots_ok hF)) List.nodup_range]
    intro a
    rw [mem_PRE hF (roots_ok hF), List.mem_range]
  rw [h.length_eq, List.length_range]
theorem POST_len {p : List Int} {r : Nat → Nat} (hF : Forest p r) : (POST p (fuelF p r)).length = p.length := by
  have h : (POST p (fuelF p r)).Perm (List.range p.length) := by
    rw [List.perm_ext_iff_of_nodup (nodup_POST hF (roots_ok hF)) List.nodup_range]
    intro a
    rw [mem_POST hF (roots_ok hF), List.mem_range]
  rw [h.length_eq, List.length_range]
theorem idx_mid {l A B : List Nat} {x : Nat} (hn : l.Nodup) (h : l = A ++ (x :: B)) : l.idxOf x = A.length := by
  subst h
  have h1 : x ∉ A := fun hx => by
    rw [List.nodup_append] at hn
    exact hn.2.2 x hx x (by simp) rfl
  rw [List.idxOf_append, if_neg h1]
  simp
theorem split_at {l : List Nat} {j k : Nat} (h : l[j]? = some k) (g : Nat → List Nat) : l.flatMap g = (l.take j).flatMap g ++ (g k ++ (l.drop (j + 1)).flatMap g) ∧ (l.take (j + 1)).flatMap g = (l.take j).flatMap g ++ g k := by
  obtain ⟨h1, h2⟩ := List.getElem?_eq_some_iff.1 h
  constructor
  · conv => lhs; rw [← List.take_append_drop j l, List.drop_eq_getElem_cons h1, h2]
    rw [List.flatMap_append, List.flatMap_cons]
  · rw [List.take_add_one, h]
    simp
theorem lab_final {p : List Int} {r : Nat → Nat} {Lc L2 Lj : List Int} {fl : List Nat} {i n a b2 : Nat} (hL2 : L2 = (Lc.set (i * 3) (a : Int)).set (i * 3 + 2) (r i : Int)) (hlen : Lc.length = 3 * n) (hlj : Lj.length = 3 * n) (hi : i < n)
    (hf : ∀ k ∈ fl, Fin3 p r Lj k) (ho : ∀ k t, t < 3 → k ∉ fl → Lj[k * 3 + t]? = L2[k * 3 + t]?) (hin : i ∉ fl) (hpre : preN p r i = a) (hpost : postN p r i = b2) :
    (∀ k ∈ i :: fl, Fin3 p r (Lj.set (i * 3 + 1) (b2 : Int)) k) ∧ (∀ k t, t < 3 → k ∉ i :: fl → (Lj.set (i * 3 + 1) (b2 : Int))[k * 3 + t]? = Lc[k * 3 + t]?) := by
  have h2 : ∀ j : Nat, L2[j]? = if j = i * 3 + 2 then some (r i : Int) else if j = i * 3 then some (a : Int) else Lc[j]? := by
    intro j
    rw [hL2, List.getElem?_set]
    by_cases h : i * 3 + 2 = j
    · rw [if_pos h, if_pos (by rw [List.length_set, hlen]; omega), if_pos h.symm]
    · rw [if_neg h, if_neg (fun e => h e.symm), List.getElem?_set]
      by_cases h' : i * 3 = j
      · rw [if_pos h', if_pos (by rw [hlen]; omega), if_pos h'.symm]
      · rw [if_neg h', if_neg (fun e => h' e.symm)]
  have h3 : ∀ j : Nat, j ≠ i * 3 + 1 → (Lj.set (i * 3 + 1) (b2 : Int))[j]? = Lj[j]? := by
    intro j hj
    rw [List.getElem?_set, if_neg (fun e => hj e.symm)]
  have h4 : (Lj.set (i * 3 + 1) (b2 : Int))[i * 3 + 1]? = some (b2 : Int) := by
    rw [List.getElem?_set, if_pos rfl, if_pos (by rw [hlj]; omega)]
  constructor
  · intro k hk
    rcases List.mem_cons.1 hk with rfl | hk
    · refine ⟨?_, ?_, ?_⟩
      · rw [h3 _ (by omega), ho k 0 (by omega) hin, h2, if_neg (by omega), if_pos (by omega), hpre]
      · rw [h4, hpost]
      · rw [h3 _ (by omega), ho k 2 (by omega) hin, h2, if_pos rfl]
    · have hne : k ≠ i := fun e => hin (e ▸ hk)
      obtain ⟨q1, q2, q3⟩ := hf k hk
      exact ⟨by rw [h3 _ (by omega)]; exact q1, by rw [h3 _ (by omega)]; exact q2, by rw [h3 _ (by omega)]; exact q3⟩
  · intro k t ht hk
    rw [List.mem_cons] at hk
    have hne : k ≠ i := fun e => hk (.inl e)
    rw [h3 _ (by omega), ho k t ht (fun h => hk (.inr h)), h2, if_neg (by omega), if_neg (by omega)]
/-- The nodes of a tree get their labels; the others keep what they have. -/
def VRes (W cb lb n : Nat) (p : List Int) (r : Nat → Nat) (f i : Nat) (a b : Nat) (Lc : List Int) (w : World) (e : Ending) (w' : World) : Prop :=
  e = .returned (.tuple #[]) ∧ ∃ Lc', VSt W cb lb n p Lc' (a + (preL p f i).length) (b + (postL p f i).length) w' ∧ VT W lb w w' ∧ (∀ k ∈ preL p f i, Fin3 p r Lc' k) ∧ (∀ k t, t < 3 → k ∉ preL p f i → Lc'[k * 3 + t]? = Lc[k * 3 + t]?)
set_option maxHeartbeats 2000000 in
set_option maxRecDepth 100000 in
theorem visit_any (W cb lb n : Nat) (p : List Int) (r : Nat → Nat) (hF : Forest p r) (hn : n = p.length) (hm : n ≤ 4096) (hR : ∀ i, i < n → r i ≤ 4096) : ∀ (f i : Nat) (A B A' B' : List Nat) (Lc : List Int) (w : World),
    Enough p r f i → i < n → PRE p (fuelF p r) = A ++ (preL p f i ++ B) → POST p (fuelF p r) = A' ++ (postL p f i ++ B') → VSt W cb lb n p Lc A.length A'.length w →
    Calls Tryz.prog 24 #[.pointer (some ⟨W, 0, none⟩), .int .i64 (i : Int), .int .i64 (r i : Int)] w (VRes W cb lb n p r f i A.length A'.length Lc w)
  | 0, i, A, B, A', B', Lc, w, he, _, _, _, _ => absurd he.pos (by omega)
  | f + 1, i, A, B, A', B', Lc, w, he, hi, hA, hA', hv => by
    have HV := hide hv
    have HA := hide hA
    have HA' := hide hA'
    have HE := hide he
    have HF := hide hF
    have HN := hide hn
    have HLA := hide (show A.length + (preL p (f + 1) i).length ≤ n ∧ A'.length + (postL p (f + 1) i).length ≤ n by
      have h1 := congrArg List.length hA
      have h2 := congrArg List.length hA'
      rw [PRE_len hF] at h1
      rw [POST_len hF] at h2
      simp only [List.length_append] at h1 h2
      omega)
    have HIN := hide (show preN p r i = A.length ∧ preL p (f + 1) i = i :: (chil p i).flatMap (preL p f) ∧ postL p (f + 1) i = (chil p i).flatMap (postL p f) ++ [i] from ⟨idx_mid (nodup_PRE hF (roots_ok hF)) hA, rfl, rfl⟩)
    clear hv hA hA' he hF hn
    obtain ⟨a, ha⟩ : ∃ a, a = A.length := ⟨_, rfl⟩
    obtain ⟨b, hb⟩ : ∃ b, b = A'.length := ⟨_, rfl⟩
    rw [← ha, ← hb] at HV HLA ⊢
    rw [← ha] at HIN
    have ham : a < 4096 := by
      have := HLA.out.1
      rw [HIN.out.2.1, List.length_cons] at this
      omega
    have HAL := hide ha
    have HBL := hide hb
    clear ha hb
    have hii : (i : Int) < (n : Int) := by omega
    obtain ⟨x0, hx0⟩ := HV.out.drew.lcell (j := i * 3) (by omega)
    obtain ⟨c0, c1, c2, c3⟩ := HV.out.drew.cells
    have HV1 := hide (HV.out.drew.setl (i * 3) (a : Int))
    have hri : r i ≤ 4096 := hR i hi
    have HRR := hide hR
    go_enter Tryz.func24, Tryz.ntmps24
    go_wp2_with fail
    refine wp_region_G 18 (GSt 17 w.drew ⟨lb, i * 3, none⟩ (iv (a : Int))) (by kernel_rfl) (by kernel_rfl) ⟨fun _ => rfl, fun h => by cases h⟩ (fun Q HQ => ?_)
    simp only [List.take_succ_cons, List.take_zero, List.map_cons, List.map_nil]
    repeat
      first | apply wpG_c rfl | apply wpG_gc rfl (guard_mk rfl rfl)
      focus
        intro L ev wx hG hL hM hx
        (try simp [Op.operands, Call.operands, opndS, Slot.holds] at hx)
        obtain ⟨Lx, hVx⟩ := GSt.vst hG HV.out.drew; obtain ⟨k0, k1, k2, k3⟩ := hVx.cells; have hGi := fun (i : Nat) (h : i ≠ 17) => GSt.same hG h
        go_simp
        try (first | exact ⟨hG, rfl⟩ | (exact ⟨hGi _ (by decide), rfl⟩))
        done
      dsimp only [setS, List.set]
    apply wpG_c rfl
    focus
      intro L ev wx hG hL hM hx
      have hGs := GSt.store hG hL
      obtain rfl := hG.1 hL
      have m0 : w.drew.frozen? ⟨lb, i * 3, none⟩ = false := (HV.out.drew.fr _).2
      (try simp [Op.operands, Call.operands, opndS, Slot.holds] at hx)
      go_simp
      exact ⟨hGs, rfl⟩
    dsimp only [setS, List.set]
    refine wpG_nil (HQ _ fun w3 hG3 => ?_)
    obtain rfl := hG3.2 rfl
    simp only [closeS, List.drop_succ_cons, List.drop_zero]
    have HT1 := hide ((VT.drew W lb w).trans (VT.set W lb w.drew ⟨lb, i * 3, none⟩ (iv (a : Int)) (.inr rfl)))
    clear HQ hG3 hx0 c0 c1 c2 c3
    generalize w.drew.setCell ⟨lb, i * 3, none⟩ (iv (a : Int)) = w1 at *
    obtain ⟨x1, hx1⟩ := HV1.out.lcell (j := i * 3 + 2) (by omega)
    have f1 : w1.frozen? ⟨lb, i * 3 + 2, none⟩ = false := (HV1.out.fr _).2
    have HV2 := hide (HV1.out.setl (i * 3 + 2) (r i : Int))
    have HT2 := hide (HT1.out.trans (VT.set W lb w1 ⟨lb, i * 3 + 2, none⟩ (iv (r i : Int)) (.inr rfl)))
    rw [show iv (r i : Int) = .int .i64 (r i : Int) from rfl] at HV2 HT2
    have c2 := HV2.out.cells.2.2.1
    have f2 : (w1.setCell ⟨lb, i * 3 + 2, none⟩ (.int .i64 (r i : Int))).frozen? ⟨W, 2, none⟩ = false := (HV2.out.fr 2).1
    have HV3 := hide HV2.out.setp
    have HT3 := hide (HT2.out.trans (VT.set W lb (w1.setCell ⟨lb, i * 3 + 2, none⟩ (.int .i64 (r i : Int))) ⟨W, 2, none⟩ (.int .i64 ((a : Int) + 1)) (.inl rfl)))
    have d0 := HV1.out.cells.1
    have d1 := HV3.out.cells.1
    obtain ⟨AC, m, c, e1, hI, hAC⟩ := HV3.out.ch i hi
    have e0 : w1.cell? ⟨cb, i, none⟩ = some (.slice AC m c) := by
      have t1 := VT.trans (VT.set W lb w1 ⟨lb, i * 3 + 2, none⟩ (.int .i64 (r i : Int)) (.inr rfl)) (VT.set W lb (w1.setCell ⟨lb, i * 3 + 2, none⟩ (.int .i64 (r i : Int))) ⟨W, 2, none⟩ (.int .i64 ((a : Int) + 1)) (.inl rfl))
      rw [← e1]
      exact (World.cell?_of_block (t1.block cb HV1.out.ne.2.1 HV1.out.ne.2.2)).symm
    have HI := hide hI
    have HAC := hide hAC
    obtain ⟨n1, n2, n3⟩ := HV1.out.ne
    clear hI hAC
    go_wp2_with fail
    have HM := hide (show m = (chil p i).length by rw [HI.out.1]; simp [nats])
    have hmm : m ≤ 4096 := by
      have h1 : (chil p i).length ≤ (List.range p.length).length := List.length_filter_le _ _
      rw [List.length_range, ← HN.out, ← HM.out] at h1
      omega
    obtain ⟨L2, hL2⟩ : ∃ L2, L2 = (Lc.set (i * 3) (a : Int)).set (i * 3 + 2) (r i : Int) := ⟨_, rfl⟩
    rw [← hL2] at HV3
    have HL2 := hide hL2
    clear hL2 HV1 HV2 HT1 HT2 c2 f2 d0 d1 e0 e1 hx1 f1
    generalize (w1.setCell ⟨lb, i * 3 + 2, none⟩ (.int .i64 (r i : Int))).setCell ⟨W, 2, none⟩ (.int .i64 ((a : Int) + 1)) = w3 at *
    go_loopw [42] (fun jv wr => ∃ (j : Nat) (Lj : List Int), jv = .int .i64 (j : Int) ∧ j ≤ m ∧ Hid (VSt W cb lb n p Lj (a + 1 + (((chil p i).take j).flatMap (preL p f)).length) (b + (((chil p i).take j).flatMap (postL p f)).length) wr) ∧ Hid (VT W lb w3 wr) ∧ Hid (∀ k ∈ ((chil p i).take j).flatMap (preL p f), Fin3 p r Lj k) ∧ Hid (∀ k t, t < 3 → k ∉ ((chil p i).take j).flatMap (preL p f) → Lj[k * 3 + t]? = L2[k * 3 + t]?)) (fun jv _ => m - (intOf jv).toNat)
    case atStart => exact ⟨0, L2, rfl, Nat.zero_le _, HV3, hide (VT.refl _ _ _), hide (fun k hk => by simp at hk), hide (fun _ _ _ _ => rfl)⟩
    case round =>
      obtain ⟨j, Lj, rfl, hj, HVj, HTj, HFj, HOj⟩ := hrel
      by_cases hjm : j < m
      · have hji : (j : Int) < (m : Int) := by omega
        have HIr : Hid (IsI wr AC m (nats (chil p i))) := hide ⟨HI.out.1, HI.out.2.vt HTj.out HAC.out⟩
        obtain ⟨bk, o, x, rfl, hbl, hx, e0⟩ := HIr.out.at_ hjm
        obtain ⟨k, hk, rfl⟩ : ∃ k, (chil p i)[j]? = some k ∧ (k : Int) = x := by
          unfold nats at hx
          rw [List.getElem?_map] at hx
          obtain ⟨k, h1, h2⟩ := Option.map_eq_some_iff.1 hx
          exact ⟨k, h1, h2⟩
        have HPar := hide (mem_chil.1 (List.mem_of_getElem? hk))
        have hrk : (r i : Int) + 1 = (r k : Int) := by have := HF.out.step _ _ HPar.out; omega
        have HK := hide hk
        clear hx hk
        go_wp2_with fail
        have HS1 := hide (split_at HK.out (preL p f))
        have HS2 := hide (split_at HK.out (postL p f))
        have hkn : k < n := by rw [HN.out]; exact HPar.out.lt
        refine (visit_any W cb lb n p r HF.out HN.out hm HRR.out f k (A ++ i :: ((chil p i).take j).flatMap (preL p f)) (((chil p i).drop (j + 1)).flatMap (preL p f) ++ B) (A' ++ ((chil p i).take j).flatMap (postL p f)) (((chil p i).drop (j + 1)).flatMap (postL p f) ++ (i :: B')) Lj wr (HE.out.child HF.out HPar.out) hkn ?hp ?hq ?hv).mono ?_
        case hp => rw [HA.out, HIN.out.2.1, HS1.out.1]; simp
        case hq => rw [HA'.out, HIN.out.2.2, HS2.out.1]; simp
        case hv =>
          have := HVj.out
          rw [List.length_append, List.length_cons, List.length_append, ← HAL.out, ← HBL.out, show a + (((chil p i).take j).flatMap (preL p f)).length.succ = a + 1 + (((chil p i).take j).flatMap (preL p f)).length by omega]
          exact this
        rintro e w4 ⟨rfl, Lk, hvk, htk, hfk, hok⟩
        have HVk : Hid (VSt W cb lb n p Lk (a + 1 + (((chil p i).take (j + 1)).flatMap (preL p f)).length) (b + (((chil p i).take (j + 1)).flatMap (postL p f)).length) w4) := hide (by
          rw [HS1.out.2, HS2.out.2]
          rw [List.length_append, List.length_cons, List.length_append, ← HAL.out, ← HBL.out] at hvk
          rw [List.length_append, List.length_append]
          rw [show a + 1 + ((((chil p i).take j).flatMap (preL p f)).length + (preL p f k).length) = a + ((((chil p i).take j).flatMap (preL p f)).length + 1) + (preL p f k).length by omega, ← Nat.add_assoc b]
          exact hvk)
        have HTk := hide (HTj.out.trans htk)
        have HFk : Hid (∀ q ∈ ((chil p i).take (j + 1)).flatMap (preL p f), Fin3 p r Lk q) := hide (by
          rw [HS1.out.2]
          intro q hq
          by_cases hqk : q ∈ preL p f k
          · exact hfk q hqk
          · rcases List.mem_append.1 hq with h | h
            · have h0 := HFj.out q h
              refine ⟨?_, ?_, ?_⟩
              · rw [← h0.1]; exact hok q 0 (by omega) hqk
              · rw [← h0.2.1]; exact hok q 1 (by omega) hqk
              · rw [← h0.2.2]; exact hok q 2 (by omega) hqk
            · exact absurd h hqk)
        have HOk : Hid (∀ q t, t < 3 → q ∉ ((chil p i).take (j + 1)).flatMap (preL p f) → Lk[q * 3 + t]? = L2[q * 3 + t]?) := hide (by
          rw [HS1.out.2]
          intro q t ht hq
          rw [List.mem_append] at hq
          rw [hok q t ht (fun h => hq (.inr h)), HOj.out q t ht (fun h => hq (.inl h))])
        clear hvk htk hfk hok
        have HJ := hide hjm
        go_wp2
        go_roundw
        case rel => exact ⟨j + 1, Lk, by go_num, HJ.out, HVk, HTk, HFk, HOk⟩
        case measure => have := HJ.out; simp [intOf]; omega
      · obtain rfl : j = m := by omega
        have htk : (chil p i).take j = chil p i := by rw [HM.out]; exact List.take_length
        rw [htk] at HVj HFj HOj
        obtain ⟨b2, hb2⟩ : ∃ b2, b2 = b + ((chil p i).flatMap (postL p f)).length := ⟨_, rfl⟩
        obtain ⟨a2, ha2⟩ : ∃ a2, a2 = a + 1 + ((chil p i).flatMap (preL p f)).length := ⟨_, rfl⟩
        rw [← hb2, ← ha2] at HVj
        have hbm : b2 < 4096 := by
          have := HLA.out.2
          rw [HIN.out.2.2, List.length_append, List.length_singleton] at this
          omega
        have HB2 := hide hb2
        have HA2 := hide ha2
        clear hb2 ha2 htk hjm
        obtain ⟨k0, k1, k2, k3⟩ := HVj.out.drew.cells
        obtain ⟨x5, hx5⟩ := HVj.out.drew.lcell (j := i * 3 + 1) (by omega)
        have f5 : wr.drew.frozen? ⟨lb, i * 3 + 1, none⟩ = false := (HVj.out.drew.fr _).2
        have HV5 := hide (HVj.out.drew.setl (i * 3 + 1) (b2 : Int))
        have HT5 := hide ((HTj.out.trans (VT.drew W lb wr)).trans (VT.set W lb wr.drew ⟨lb, i * 3 + 1, none⟩ (iv (b2 : Int)) (.inr rfl)))
        rw [show iv (b2 : Int) = .int .i64 (b2 : Int) from rfl] at HV5 HT5
        have l3 := HV5.out.cells.2.2.2
        have f6 := (HV5.out.fr 3).1
        have HV6 := hide HV5.out.setq
        have HT6 := hide (HT5.out.trans (VT.set W lb _ ⟨W, 3, none⟩ (.int .i64 ((b2 : Int) + 1)) (.inl rfl)))
        go_wp2_with fail
        refine wp_region_G 9 (fun _ w => w = wr.drew) (by kernel_rfl) (by kernel_rfl) rfl (fun Q HQ => ?_)
        simp only [List.take_succ_cons, List.take_zero, List.map_cons, List.map_nil]
        repeat
          first | apply wpG_c rfl | apply wpG_gc rfl (guard_mk rfl rfl)
          focus
            intro L ev wx hG hL hM hx
            (try simp [Op.operands, Call.operands, opndS, Slot.holds] at hx)
            have hG' : wx = wr.drew := hG; subst hG'
            go_simp
            try (first | exact ⟨hG, rfl⟩ | (exact ⟨rfl, rfl⟩))
            done
          dsimp only [setS, List.set]
        refine wpG_nil (HQ _ fun w5 hG5 => ?_)
        have hG5' : w5 = wr.drew := hG5
        subst hG5'
        simp only [closeS, List.drop_succ_cons, List.drop_zero]
        clear HQ hG5
        generalize wr.drew = w5 at *
        go_wp2
        go_end0
        have hpost : postN p r i = b2 := by
          have h := idx_mid (A := A' ++ (chil p i).flatMap (postL p f)) (B := B') (x := i) (nodup_POST HF.out (roots_ok HF.out)) (by rw [HA'.out, HIN.out.2.2]; simp)
          rw [List.length_append, ← HBL.out, ← HB2.out] at h
          exact h
        have hnin : i ∉ (chil p i).flatMap (preL p f) := by
          have h := nodup_pre HF.out (f + 1) i HE.out
          rw [HIN.out.2.1, List.nodup_cons] at h
          exact h.1
        obtain ⟨r1, r2⟩ := lab_final (p := p) (r := r) HL2.out HV.out.len HVj.out.len hi HFj.out HOj.out hnin (by rw [HAL.out]; exact HIN.out.1.trans HAL.out) hpost
        refine ⟨rfl, Lj.set (i * 3 + 1) (b2 : Int), ?_, HT3.out.trans HT6.out, ?_, ?_⟩
        · rw [HIN.out.2.1, HIN.out.2.2, List.length_cons, List.length_append, List.length_singleton, show a + (((chil p i).flatMap (preL p f)).length + 1) = a2 by rw [HA2.out]; omega, show b + (((chil p i).flatMap (postL p f)).length + 1) = b2 + 1 by rw [HB2.out]; omega]
          exact HV6.out
        · rw [HIN.out.2.1]; exact r1
        · rw [HIN.out.2.1]; exact r2
end Go.Proofs.YtbpkclopcoaikaaGreatDoor
namespace Go.Proofs.YtbpkclopcoaikaaGreatDoor
open Go.RowKit
set_option linter.unusedVariables false
set_option linter.unusedSimpArgs false
structure Fam (base N : Nat) (bad : Nat → Prop) (v : Nat → Value) (c : Nat → List Int) (w : World) : Prop where
  own : ∀ i, i ≤ N → w.ownsRow base 3 1 (v i) (c i).length ((c i).map iv)
  apart : ∀ i j, i ≤ N → j ≤ N → i ≠ j → ∀ g, (v i).ownBlock = some g → (v j).ownBlock ≠ some g
  far : ∀ i, i ≤ N → ∀ g, (v i).ownBlock = some g → ¬ bad g
theorem Fam.grown {base N : Nat} {bad : Nat → Prop} {v : Nat → Value} {c : Nat → List Int} {w w' : World} (h : Fam base N bad v c w) {row : Option Nat} (hg : w.grownBy w' row) (hr : ∀ g, row = some g → bad g) : Fam base N bad v c w' :=
  ⟨fun i hi => (h.own i hi).kept hg (by
    cases ho : (v i).ownBlock with
    | none => exact .inl rfl
    | some g => exact .inr (fun e => h.far i hi g ho (hr g e.symm))), h.apart, h.far⟩
theorem Fam.app {base N : Nat} {bad : Nat → Prop} {v : Nat → Value} {c : Nat → List Int} {w w' : World} (h : Fam base N bad v c w) {i : Nat} (hi : i ≤ N) {v' : Value} {x : Int} (ho : w'.ownsRow base 3 1 v' ((c i).length + 1) ((c i).map iv ++ [iv x])) (hg : w.grownBy w' (v i).ownBlock) (hv : v'.ownBlock = (v i).ownBlock ∨ v'.ownBlock = some w.heap.size) (hb : ∀ g, bad g → g < w.heap.size) :
    Fam base N bad (fun j => if j = i then v' else v j) (fun j => if j = i then c j ++ [x] else c j) w' := by
  have lt : ∀ j, j ≤ N → ∀ g, (v j).ownBlock = some g → g < w.heap.size := fun j hj g e => ((h.own j hj).lt g e).2
  refine ⟨fun j hj => ?_, fun j k hj hk hne g hgj hgk => ?_, fun j hj g hgj hbad => ?_⟩
  · by_cases e : j = i
    · subst e
      simp only [if_pos, List.length_append, List.length_singleton, List.map_append, List.map_cons, List.map_nil]
      exact ho
    · simp only [if_neg e]
      refine (h.own j hj).kept hg ?_
      cases hj' : (v j).ownBlock with
      | none => exact .inl rfl
      | some g => exact .inr (fun e' => h.apart j i hj hi e g hj' e'.symm)
  · by_cases e : j = i
    · subst e
      have e2 : k ≠ j := fun e2 => hne e2.symm
      simp only [if_pos, if_neg e2] at hgj hgk
      rcases hv with hv | hv
      · exact h.apart j k hj hk hne g (hv ▸ hgj) hgk
      · rw [hv] at hgj
        injection hgj with hgj
        have := lt k hk g hgk
        omega
    · by_cases e2 : k = i
      · subst e2
        simp only [if_neg e, if_pos] at hgj hgk
        rcases hv with hv | hv
        · exact h.apart j k hj hk hne g hgj (hv ▸ hgk)
        · rw [hv] at hgk
          injection hgk with hgk
          have := lt j hj g hgj
          omega
      · simp only [if_neg e, if_neg e2] at hgj hgk
        exact h.apart j k hj hk hne g hgj hgk
  · by_cases e : j = i
    · subst e
      simp only [if_pos] at hgj
      rcases hv with hv | hv
      · exact h.far j hj g (hv ▸ hgj) hbad
      · rw [hv] at hgj
        injection hgj with hgj
        have := hb g hbad
        omega
    · simp only [if_neg e] at hgj
      exact h.far j hj g hgj hbad
/-- The children and the roots among the first k nodes. -/
def chilTo (p : List Int) (k i : Nat) : List Nat := (List.range k).filter fun j => p[j]? == some (i : Int)
def rootsTo (p : List Int) (k : Nat) : List Nat := (List.range k).filter fun j => decide (p.getD j 0 < 0)
theorem chilTo_all (p : List Int) (i : Nat) : chilTo p p.length i = chil p i := rfl
theorem rootsTo_all (p : List Int) : rootsTo p p.length = rootsF p := rfl
theorem chilTo_succ {p : List Int} {k i : Nat} (h : p[k]? = some (i : Int)) (j : Nat) : chilTo p (k + 1) j = if j = i then chilTo p k j ++ [k] else chilTo p k j := by
  unfold chilTo
  rw [List.range_succ, List.filter_append]
  by_cases e : j = i
  · subst e; simp [h]
  · rw [if_neg e]
    have : (p[k]? == some (j : Int)) = false := by
      rw [h, beq_eq_false_iff_ne]
      intro e'
      injection e' with e'
      omega
    simp [this]
theorem chilTo_neg {p : List Int} {k : Nat} {x : Int} (h : p[k]? = some x) (hx : x < 0) (j : Nat) : chilTo p (k + 1) j = chilTo p k j := by
  unfold chilTo
  rw [List.range_succ, List.filter_append]
  have : (p[k]? == some (j : Int)) = false := by
    rw [h, beq_eq_false_iff_ne]
    intro e'
    injection e' with e'
    omega
  simp [this]
theorem rootsTo_neg {p : List Int} {k : Nat} {x : Int} (h : p[k]? = some x) (hx : x < 0) : rootsTo p (k + 1) = rootsTo p k ++ [k] := by
  unfold rootsTo
  rw [List.range_succ, List.filter_append]
  have : p.getD k 0 = x := by simp [List.getD, h]
  simp only [List.filter_cons, List.filter_nil, this, decide_eq_true_eq]
  rw [if_pos hx]
theorem rootsTo_pos {p : List Int} {k : Nat} {x : Int} (h : p[k]? = some x) (hx : 0 ≤ x) : rootsTo p (k + 1) = rootsTo p k := by
  unfold rootsTo
  rw [List.range_succ, List.filter_append]
  have : p.getD k 0 = x := by simp [List.getD, h]
  simp only [List.filter_cons, List.filter_nil, this, decide_eq_true_eq]
  rw [if_neg (by omega)]
  simp
/-- What the rows hold when the first k nodes are read: row n is the roots'. -/
def rowsTo (p : List Int) (n k : Nat) : Nat → List Int := fun j => if j = n then nats (rootsTo p k) else nats (chilTo p k j)
theorem rowsTo_neg {p : List Int} {n k : Nat} {x : Int} (h : p[k]? = some x) (hx : x < 0) : rowsTo p n (k + 1) = fun j => if j = n then rowsTo p n k j ++ [(k : Int)] else rowsTo p n k j := by
  funext j
  unfold rowsTo
  by_cases e : j = n
  · simp only [if_pos e, rootsTo_neg h hx]; simp [nats]
  · simp only [if_neg e, chilTo_neg h hx]
theorem rowsTo_pos {p : List Int} {n k i : Nat} (h : p[k]? = some (i : Int)) (hi : i < n) : rowsTo p n (k + 1) = fun j => if j = i then rowsTo p n k j ++ [(k : Int)] else rowsTo p n k j := by
  funext j
  unfold rowsTo
  by_cases e : j = n
  · have e' : j ≠ i := by omega
    simp only [if_pos e, if_neg e', rootsTo_pos h (by omega)]
  · simp only [if_neg e, chilTo_succ h]
    by_cases e' : j = i
    · simp only [if_pos e']; simp [nats]
    · simp only [if_neg e']
/-- append of one number to a row of the family. -/
theorem wpList_append_fam {ops : Array Oper} {rest : List Oper} {o : Oper} {ac : Act} {w : World} {Q : Exit → Act → World → Prop} (hgd : o.guard = none) (s x : Operand) (t : TypeId)
    (ho : o.op = .call { callee := .builtin .append, args := #[s, x], argTypes := #[t, t] }) (ht : Tryz.prog.underlying t = some (.slice 3))
    (base N : Nat) (bad : Nat → Prop) (v : Nat → Value) (c : Nat → List Int) (hf : Fam base N bad v c w) (i : Nat) (hi : i ≤ N) (hb : ∀ g, bad g → g < w.heap.size) (hs : ac.eval s = v i)
    (A : Option Addr) (cc : Nat) (y : Int) (hx : ac.eval x = .slice A 1 cc) (hr : Rd w A [iv y]) (hlen : (c i).length ≤ 100000) (hbase : base ≤ w.heap.size)
    (h : ∀ v' w', Fam base N bad (fun j => if j = i then v' else v j) (fun j => if j = i then c j ++ [y] else c j) w' → w.grownBy w' (v i).ownBlock → wpList Tryz.prog ops Q rest (ac.put o.dst v') w') : wpList Tryz.prog ops Q (o :: rest) ac w := by
  refine wpList_plain hgd fun K hK => ?_
  obtain ⟨i2, hi2, hz0, hz1, hz2⟩ := info_parts info_int
  have hown := hf.own i hi
  obtain ⟨_, a, c0, hv, _⟩ := own_form hown
  rw [hv] at hown
  obtain ⟨v', w', hrun, h2, h3, h4, h5⟩ := run_append_keep (P := Tryz.prog) (w := w) base t o.type 3 i2 _ 8 ht hi2 hz0 hz1 hz2 rfl a (c i).length c0 ((c i).map iv) hown A 1 cc [iv y] rfl hr (by intro u hu; simp at hu; subst hu; rfl) (by simp only [maxLen]; omega) (by omega) hbase
  rw [← hv] at h3 h4
  unfold Oper.wp execOp
  simp only [ho, resolve, invoke, builtin, Sem.run_bind, Sem.run_pure, Result.andThen_ok, List.map_toArray, List.map_cons, List.map_nil, hs.trans hv, hx, hrun]
  exact hK _ _ (h v' w' (hf.app hi h2 h3 h4 hb) h3)
/-- The same, the run alone (for drawn regions). -/
theorem run_append_fam {w : World} (t ty : TypeId) (ht : Tryz.prog.underlying t = some (.slice 3))
    (base N : Nat) (bad : Nat → Prop) (v : Nat → Value) (c : Nat → List Int) (hf : Fam base N bad v c w) (i : Nat) (hi : i ≤ N) (hb : ∀ g, bad g → g < w.heap.size)
    (A : Option Addr) (cc : Nat) (y : Int) (hr : Rd w A [iv y]) (hlen : (c i).length ≤ 100000) (hbase : base ≤ w.heap.size) :
    ∃ a n c0 v' w', v i = .slice a n c0 ∧ (Builtin.append_ #[t, t] ty #[.slice a n c0, .slice A 1 cc]).run Tryz.prog w = .ok v' w' ∧ Fam base N bad (fun j => if j = i then v' else v j) (fun j => if j = i then c j ++ [y] else c j) w' ∧ w.grownBy w' (v i).ownBlock := by
  obtain ⟨i2, hi2, hz0, hz1, hz2⟩ := info_parts info_int
  have hown := hf.own i hi
  obtain ⟨_, a, c0, hv, _⟩ := own_form hown
  rw [hv] at hown
  obtain ⟨v', w', hrun, h2, h3, h4, h5⟩ := run_append_keep (P := Tryz.prog) (w := w) base t ty 3 i2 _ 8 ht hi2 hz0 hz1 hz2 rfl a (c i).length c0 ((c i).map iv) hown A 1 cc [iv y] rfl hr (by intro u hu; simp at hu; subst hu; rfl) (by simp only [maxLen]; omega) (by omega) hbase
  rw [← hv] at h3 h4
  exact ⟨a, _, c0, v', w', hv, hrun, hf.app hi h2 h3 h4 hb, h3⟩
end Go.Proofs.YtbpkclopcoaikaaGreatDoor
namespace Go.Proofs.YtbpkclopcoaikaaGreatDoor
open Go.RowKit
set_option linter.unusedVariables false
set_option linter.unusedSimpArgs false
/-- The nodes seen by the ways from nodes up to j are marked below j. -/
def SeenOk (z : List Int) (n j : Nat) : Prop := z.length = n ∧ ∀ x ∈ z, 0 ≤ x ∧ x ≤ (j : Int)
theorem SeenOk.start (n : Nat) : SeenOk (List.replicate n 0) n 0 := ⟨by simp, fun x hx => by rw [List.mem_replicate] at hx; omega⟩
theorem SeenOk.set {z : List Int} {n j q : Nat} (h : SeenOk z n (j + 1)) : SeenOk (z.set q ((j : Int) + 1)) n (j + 1) :=
  ⟨by simpa using h.1, fun x hx => by
    rcases List.mem_or_eq_of_mem_set hx with hx | rfl
    · exact h.2 x hx
    · omega⟩
theorem SeenOk.mono {z : List Int} {n j k : Nat} (h : SeenOk z n j) (hk : j ≤ k) : SeenOk z n k := ⟨h.1, fun x hx => by have := h.2 x hx; omega⟩
/-- What is marked on this way lies deeper than where it has come to. -/
def Deeper (r : Nat → Nat) (z : List Int) (j : Nat) (at_ : Int) : Prop := ∀ (x q : Nat), z[x]? = some ((j : Int) + 1) → at_ = (q : Int) → r q < r x
theorem Deeper.start {r : Nat → Nat} {z : List Int} {n j : Nat} {a : Int} (h : SeenOk z n j) : Deeper r z j a := fun x q hx _ => by
  have := h.2 _ (List.mem_of_getElem? hx)
  omega
theorem Deeper.step {p : List Int} {r : Nat → Nat} (hF : Forest p r) {z : List Int} {j q : Nat} {y : Int} (h : Deeper r z j (q : Int)) (hy : p[q]? = some y) : Deeper r (z.set q ((j : Int) + 1)) j y := fun x k hx hk => by
  subst hk
  have hs := hF.step k q hy
  rw [List.getElem?_set] at hx
  split at hx
  · subst q; omega
  · have := h x q hx rfl; omega
set_option maxHeartbeats 2000000 in
set_option maxRecDepth 100000 in
theorem tcheck_any (a : Option Addr) (n cap : Nat) (p : List Int) (r : Nat → Nat) (w : World) (h : IsI w a n p) (hc : n ≤ cap) (hcm : cap ≤ maxLen) (hm : n ≤ 4096) (hF : Forest p r) :
    Calls Tryz.prog 23 #[.slice a n cap] w fun e w' => e = .returned (.tuple #[.int .i64 0, .int .i64 0]) ∧ Below w.heap.size w w' := by
  have HI := hide h
  have HN := hide h.1
  have HF := hide hF
  unfold maxLen at hcm
  clear h hF
  have h4' : ¬ (4096 : Int) < (n : Int) := by omega
  obtain ⟨i2, hi2, hz0, hz1, hz2⟩ := info_parts info_int
  go_enter Tryz.func23, Tryz.ntmps23
  go_wp2_with fail
  go_loopw [17] (fun i wr => ∃ k : Nat, i = .int .i64 (k : Int) ∧ k ≤ n ∧ Hid (wr = w)) (fun i _ => n - (intOf i).toNat)
  case atStart => exact ⟨0, rfl, Nat.zero_le _, hide rfl⟩
  case round =>
    obtain ⟨k, rfl, hk, hwr⟩ := hrel
    have hwr := hwr.out
    subst hwr
    by_cases hlt : k < n
    · obtain ⟨b, o, x, rfl, hbl, hx, e0⟩ := HI.out.at_ hlt
      have hkn : (k : Int) < (n : Int) := by omega
      have hrg := HF.out.rng k x hx
      rw [← HN.out] at hrg
      have h1 : ¬ x < -1 := by omega
      have h2 : ¬ (n : Int) ≤ x := by omega
      have h3 : x < (n : Int) := by omega
      clear hrg hx hlt
      go_wp2
      go_roundw
      case rel => exact ⟨k + 1, by go_num, by omega, hide trivial⟩
      case measure => simp [intOf]; omega
    · obtain rfl : k = n := by omega
      clear hlt
      obtain ⟨W, hW⟩ : ∃ W, W = wr := ⟨_, rfl⟩
      subst hW
      go_wp2_with (at_make; go_loud (refine wpList_make_full _ rfl (.tmp 33) (.tmp 33) 27 rfl W.heap.size 3 i2 _ 1 Tryz.underlying27 hi2 hz0 hz1 .i64 .i64 _ _ k rfl rfl rfl rfl (by rw [hz2]; omega) (by simp only [maxLen]; omega) (Nat.le_refl _) ?_); intro w2 hown hg1; rw [made_one _ rfl] at hown; have hb2 : Below W.heap.size W w2 := bl_grown (bl_refl W) hg1 (fun k h => by cases h); have HO := hide hown; have HB := hide hb2; clear hown hg1 hb2)
      have HS := hide (SeenOk.start k)
      have hO := HO.out
      rw [show List.replicate k (Value.int .i64 0) = (List.replicate k (0 : Int)).map iv by rw [List.map_replicate]; rfl] at hO
      have HO := hide hO
      clear hO
      obtain ⟨g, hg⟩ : ∃ g, g = W.heap.size := ⟨_, rfl⟩
      obtain ⟨Z0, hZ0⟩ : ∃ Z0, Z0 = List.replicate k (0 : Int) := ⟨_, rfl⟩
      rw [← hZ0] at HO HS
      rw [← hg] at HO HB ⊢
      have HG := hide hg
      clear hZ0 hg
      go_wp2_with fail
      go_loopw [7, 37] (fun lv i wr => ∃ (j : Nat) (z : List Int), lv = .int .i64 (-1) ∧ i = .int .i64 (j : Int) ∧ j ≤ k ∧ Hid (SeenOk z k j) ∧ Hid (wr.ownsRow g 3 1 (.slice (some ⟨g, 0, none⟩) k k) k (z.map iv)) ∧ Hid (Below g W wr)) (fun _ i _ => k - (intOf i).toNat)
      case atStart => exact ⟨0, Z0, rfl, rfl, Nat.zero_le _, HS, HO, HB⟩
      case round =>
        obtain ⟨j, z, rfl, rfl, hj, HZ, HW, HX⟩ := hrel
        by_cases hjk : j < k
        · have hjk' : (j : Int) < (k : Int) := by omega
          have HZ1 := hide (HZ.out.mono (Nat.le_succ j))
          have HD1 : Hid (Deeper r z j (j : Int)) := hide (Deeper.start HZ.out)
          generalize wr = wy at *
          go_wp2_with fail
          go_loopw [9] (fun av wr => ∃ (at_ : Int) (z : List Int), av = .int .i64 at_ ∧ -1 ≤ at_ ∧ at_ < (k : Int) ∧ Hid (SeenOk z k (j + 1)) ∧ Hid (Deeper r z j at_) ∧ Hid (wr.ownsRow g 3 1 (.slice (some ⟨g, 0, none⟩) k k) k (z.map iv)) ∧ Hid (Below g W wr)) (fun av _ => if intOf av < 0 then 0 else r (intOf av).toNat + 1)
          case atStart => exact ⟨j, z, rfl, by omega, by omega, HZ1, HD1, HW, HX⟩
          case round =>
            obtain ⟨y, z, rfl, hy1, hy2, HZ, HD, HW, HX⟩ := hrel
            by_cases h0 : y < 0
            · have h0' : ¬ 0 ≤ y := by omega
              go_wp2
              go_roundw
              case rel => exact ⟨j + 1, z, rfl, by go_num, by omega, HZ, HW, HX⟩
              case measure => simp [intOf]; omega
            · obtain ⟨q, rfl⟩ := Int.eq_ofNat_of_zero_le (show 0 ≤ y by omega)
              have hqk : q < k := by omega
              obtain ⟨b, o, x, rfl, hbl, hx, e0⟩ := (HI.out.below (by rw [← HG.out]; exact HX.out)).at_ hqk
              obtain ⟨⟨v1, hv, m1⟩, f1⟩ := own_at HW.out hqk
              have hzq : z[q]? = some (z[q]'(by rw [HZ.out.1]; exact hqk)) := List.getElem?_eq_getElem _
              rw [List.getElem?_map, hzq] at hv
              injection hv with hv
              generalize z[q]'(by rw [HZ.out.1]; exact hqk) = s at *
              subst hv
              change wr.cell? ⟨g, q, none⟩ = some (.int .i64 s) at m1
              have hn0 : ¬ s < 0 := by have := HZ.out.2 s (List.mem_of_getElem? hzq); omega
              have hs1 : s ≠ (j : Int) + 1 := fun e => by
                subst e
                exact Nat.lt_irrefl _ (HD.out q q hzq rfl)
              by_cases hs0 : s = 0
              · have hse : (s == (0 : Int)) = true := by simp [hs0]
                have hrg := HF.out.rng q x hx
                rw [← HN.out] at hrg
                have HZ2 := hide (HZ.out.set (q := q))
                have HD2 := hide (HD.out.step HF.out hx)
                have HW2 := hide (own_set HW.out hqk (iv ((j : Int) + 1)))
                have hset := HW2.out
                rw [← List.map_set] at hset
                have HW3 := hide hset
                have HX2 : Hid (Below g W (wr.setCell ⟨g, q, none⟩ (iv ((j : Int) + 1)))) := hide (by
                  have := HX.out
                  rw [HG.out] at this ⊢
                  exact bl_set this (Nat.le_refl _) _)
                have hmeas : (if x < 0 then 0 else r x.toNat + 1) < r q + 1 := by
                  split
                  · omega
                  · have := HF.out.step x.toNat q (by unfold Par; rw [Int.toNat_of_nonneg (by omega)]; exact hx)
                    omega
                have HM := hide hmeas
                have e1 : (wr.setCell ⟨g, q, none⟩ (iv ((j : Int) + 1))).cell? ⟨b, o + q, none⟩ = some (.int .i64 x) := (HI.out.below (by rw [← HG.out]; exact HX2.out)).cell hx
                clear hset HW2 hmeas hzq hx
                have hb : (0 : Int) ≤ (q : Int) := by omega
                have hjq : ¬ ((q : Int) < 0) := by omega
                simp only [show ∀ z, iv z = Value.int .i64 z from fun _ => rfl] at HX2 e1
                rw [show iv ((j : Int) + 1) = Value.int .i64 ((j : Int) + 1) from rfl] at HW3
                go_wp2
                go_roundw
                case rel => exact ⟨x, z.set q ((j : Int) + 1), rfl, by omega, by omega, HZ2, HD2, HW3, HX2⟩
                case measure => simp [intOf]; exact HM.out
              · have hb : (0 : Int) ≤ (q : Int) := by omega
                have hjq : ¬ ((q : Int) < 0) := by omega
                have hse : (s == (0 : Int)) = false := by simp [hs0]
                have hsj : (s == (j : Int) + 1) = false := by simp [hs1]
                clear hx hzq
                go_wp2
                go_roundw
                case rel => exact ⟨j + 1, z, rfl, by go_num, by omega, HZ, HW, HX⟩
                case measure => simp [intOf]; omega
        · obtain rfl : j = k := by omega
          have hX := HX.out
          rw [HG.out] at hX
          have HX2 := hide hX
          clear hX
          generalize wr = w9 at *
          go_wp2
          go_ret2
          exact ⟨rfl, HX2.out⟩
end Go.Proofs.YtbpkclopcoaikaaGreatDoor
