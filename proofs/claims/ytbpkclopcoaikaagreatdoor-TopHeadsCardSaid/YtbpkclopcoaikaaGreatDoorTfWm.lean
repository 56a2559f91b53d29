/- The walk of treelabel.Parents, at the labels of a forest. -/
import Derived.Test.YtbpkclopcoaikaaGreatDoorTeWm
import Derived.Test.YtbpkclopcoaikaaGreatDoorMc
namespace Go.Proofs.YtbpkclopcoaikaaGreatDoor
open Go.RowKit
set_option linter.unusedVariables false
set_option linter.unusedSimpArgs false
/-- The labels of a forest, read. -/
def IsLab (w : World) (a : Option Addr) (n : Nat) (p : List Int) (r : Nat → Nat) : Prop := n = p.length ∧ Rd w a ((labs p r).map iv)
theorem IsLab.below {w w' : World} {a : Option Addr} {n : Nat} {p : List Int} {r : Nat → Nat} (h : IsLab w a n p r) (hb : Below w.heap.size w w') : IsLab w' a n p r := ⟨h.1, h.2.below hb⟩
theorem IsLab.at_ {w : World} {a : Option Addr} {n : Nat} {p : List Int} {r : Nat → Nat} (h : IsLab w a n p r) {k : Nat} (hk : k < n) :
    ∃ b o, a = some ⟨b, o, none⟩ ∧ b < w.heap.size ∧ w.cell? ⟨b, o + k * 3, none⟩ = some (.int .i64 (preN p r k : Int)) ∧ w.cell? ⟨b, o + k * 3 + 1, none⟩ = some (.int .i64 (postN p r k : Int)) ∧ w.cell? ⟨b, o + k * 3 + 2, none⟩ = some (.int .i64 (r k : Int)) := by
  obtain ⟨a0, a1, a2⟩ := labs_get (p := p) (r := r) (k := k) (by have := h.1; omega)
  obtain ⟨b, o, ha, hb, e⟩ := h.2.at_ (k := k * 3 + 0) (v := iv _) (by rw [List.getElem?_map, a0]; rfl)
  subst ha
  refine ⟨b, o, rfl, hb, e, ?_, ?_⟩
  · exact Rd.cells h.2 _ rfl (k * 3 + 1) (iv _) (by rw [List.getElem?_map, a1]; rfl)
  · exact Rd.cells h.2 _ rfl (k * 3 + 2) (iv _) (by rw [List.getElem?_map, a2]; rfl)
theorem IsLab.cells {w : World} {b o n : Nat} {p : List Int} {r : Nat → Nat} (h : IsLab w (some ⟨b, o, none⟩) n p r) {k : Nat} (hk : k < n) :
    w.cell? ⟨b, o + k * 3, none⟩ = some (.int .i64 (preN p r k : Int)) ∧ w.cell? ⟨b, o + k * 3 + 1, none⟩ = some (.int .i64 (postN p r k : Int)) ∧ w.cell? ⟨b, o + k * 3 + 2, none⟩ = some (.int .i64 (r k : Int)) := by
  obtain ⟨b', o', e, _, h1⟩ := h.at_ hk
  injection e with e
  injection e with e1 e2
  subst e1 e2
  exact h1
/-- The row of the nodes by their first number, when the first k nodes are read. -/
structure Ord1 (p : List Int) (r : Nat → Nat) (n : Nat) (z : List Int) (k : Nat) : Prop where
  len : z.length = n
  done : ∀ i, i < k → z[preN p r i]? = some ((i : Int) + 1)
  free : ∀ q, q < n → (∀ i, i < k → preN p r i ≠ q) → z[q]? = some 0
theorem Ord1.start (p : List Int) (r : Nat → Nat) (n : Nat) : Ord1 p r n (List.replicate n 0) 0 := ⟨by simp, fun i h => absurd h (by omega), fun q hq _ => by simp [hq]⟩
theorem Ord1.zero {p : List Int} {r : Nat → Nat} {n k : Nat} {z : List Int} (hF : Forest p r) (hn : n = p.length) (h : Ord1 p r n z k) (hk : k < n) : z[preN p r k]? = some 0 :=
  h.free _ (by rw [hn]; exact preN_lt hF (by omega)) (fun i hi e => by have := preN_inj hF (by omega) (by omega) e; omega)
theorem Ord1.next {p : List Int} {r : Nat → Nat} {n k : Nat} {z : List Int} (hF : Forest p r) (hn : n = p.length) (h : Ord1 p r n z k) (hk : k < n) : Ord1 p r n (z.set (preN p r k) ((k : Int) + 1)) (k + 1) := by
  have hl := preN_lt hF (show k < p.length by omega)
  refine ⟨by simp [h.len], fun i hi => ?_, fun q hq hne => ?_⟩
  · rw [List.getElem?_set]
    by_cases e : i = k
    · subst e
      rw [if_pos rfl, if_pos (by rw [h.len]; omega)]
    · rw [if_neg (fun e' => e (preN_inj hF (by omega) (by omega) e'.symm))]
      exact h.done i (by omega)
  · rw [List.getElem?_set, if_neg (hne k (by omega))]
    exact h.free q hq (fun i hi => hne i (by omega))
def ordI (p : List Int) (r : Nat → Nat) : List Int := (PRE p (fuelF p r)).map fun (k : Nat) => (k : Int) + 1
theorem Ord1.all {p : List Int} {r : Nat → Nat} {n : Nat} {z : List Int} (hF : Forest p r) (hn : n = p.length) (h : Ord1 p r n z n) : z = ordI p r := by
  apply List.ext_getElem?
  intro q
  unfold ordI
  rw [List.getElem?_map]
  rcases Nat.lt_or_ge q n with hq | hq
  · obtain ⟨x, hx⟩ : ∃ x, (PRE p (fuelF p r))[q]? = some x := ⟨_, List.getElem?_eq_getElem (by rw [PRE_len hF]; omega)⟩
    obtain ⟨h1, h2⟩ := preN_at hF hx
    have h3 := h.done x (by omega)
    rw [h2] at h3
    rw [hx, h3]
    rfl
  · rw [List.getElem?_eq_none (by rw [h.len]; exact hq), List.getElem?_eq_none (by rw [PRE_len hF]; omega)]
    rfl
theorem own_pos {w : World} {base n : Nat} {e : TypeId} {v : Value} {xs : List Value} (h : w.ownsRow base e 1 v n xs) (hn : 0 < n) : ∃ g c, v = .slice (some ⟨g, 0, none⟩) n c ∧ n ≤ c := by
  rcases h.2 with ⟨h1, h2⟩ | ⟨g, cap, cur, h1, _, _, h3, _⟩
  · have := h.1; omega
  · exact ⟨g, cap, h1, h3⟩
theorem nats_len (l : List Nat) : (nats l).length = l.length := by simp [nats]
theorem IsI.val {w : World} {b o : Nat} {n : Nat} {l : List Int} (h : IsI w (some ⟨b, o, none⟩) n l) : ∀ k x, l[k]? = some x → w.cell? ⟨b, o + k, none⟩ = some (.int .i64 x) := fun k x hk => h.cell hk
def lenS : Value → Nat
  | .slice _ n _ => n
  | _ => 0
/-- The memory of Parents in its second loop. -/
structure PSt (B g1 g2 n : Nat) (p : List Int) (r : Nat → Nat) (z : List Int) (st : List Nat) (v : Value) (w0 w : World) : Prop where
  ord : w.ownsRow B 3 1 (.slice (some ⟨g1, 0, none⟩) n n) n ((ordI p r).map iv)
  par : w.ownsRow B 3 1 (.slice (some ⟨g2, 0, none⟩) n n) n (z.map iv)
  fam : Fam B 0 (fun g => g = g1 ∨ g = g2) (fun _ => v) (fun _ => nats st) w
  below : Below B w0 w
  ne : g1 ≠ g2
  ge : B ≤ g1 ∧ B ≤ g2
  lt : g1 < w.heap.size ∧ g2 < w.heap.size
theorem Fam.one {base : Nat} {bad : Nat → Prop} {v : Nat → Value} {c : Nat → List Int} {w : World} (h : Fam base 0 bad v c w) : Fam base 0 bad (fun _ => v 0) (fun _ => c 0) w :=
  ⟨fun i hi => by obtain rfl : i = 0 := by omega
                  exact h.own 0 (Nat.le_refl _), fun i j hi hj hij => absurd hij (by omega), fun i hi => h.far 0 (Nat.le_refl _)⟩
theorem Fam.pop {base : Nat} {bad : Nat → Prop} {g m c : Nat} {l : List Int} {x : Int} {w : World} (h : Fam base 0 bad (fun _ => .slice (some ⟨g, 0, none⟩) (m + 1) c) (fun _ => l ++ [x]) w) (hm : m = l.length) : Fam base 0 bad (fun _ => .slice (some ⟨g, 0, none⟩) m c) (fun _ => l) w := by
  refine ⟨fun i hi => ?_, fun i j hi hj hij => absurd hij (by omega), fun i hi => h.far 0 (Nat.le_refl _)⟩
  have := h.own 0 (Nat.le_refl _)
  simp only [List.length_append, List.length_singleton, List.map_append, List.map_cons, List.map_nil, ← hm] at this ⊢
  exact ownsRow_pop (by simp [hm]) this
theorem PSt.below' {B g1 g2 n : Nat} {p : List Int} {r : Nat → Nat} {z : List Int} {st : List Nat} {v : Value} {w0 w w' : World} (h : PSt B g1 g2 n p r z st v w0 w) (hb : Below w.heap.size w w') : PSt B g1 g2 n p r z st v w0 w' :=
  ⟨own_below h.ord hb, own_below h.par hb, ⟨fun i hi => own_below (h.fam.own i hi) hb, h.fam.apart, h.fam.far⟩, h.below.trans (hb.mono (Nat.le_of_lt (Nat.lt_of_le_of_lt h.ge.1 h.lt.1))), h.ne, h.ge, ⟨Nat.lt_of_lt_of_le h.lt.1 hb.size, Nat.lt_of_lt_of_le h.lt.2 hb.size⟩⟩
theorem PSt.setp {B g1 g2 n : Nat} {p : List Int} {r : Nat → Nat} {z : List Int} {st : List Nat} {v : Value} {w0 w : World} (h : PSt B g1 g2 n p r z st v w0 w) {i : Nat} (hi : i < n) (x : Int) : PSt B g1 g2 n p r (z.set i x) st v w0 (w.setCell ⟨g2, i, none⟩ (.int .i64 x)) := by
  have hs := own_set h.par hi (iv x)
  rw [← List.map_set] at hs
  refine ⟨h.ord.kept (grown_set w g2 i _) (.inr (fun e => by injection e with e; exact h.ne e)), hs, h.fam.grown (grown_set w g2 i _) (fun g e => by injection e with e; exact .inr e.symm), h.below.setCell h.ge.2 _, h.ne, h.ge, by simpa [World.setCell] using h.lt⟩
theorem PSt.push {B g1 g2 n : Nat} {p : List Int} {r : Nat → Nat} {z : List Int} {st : List Nat} {v v' : Value} {w0 w w' : World} {i : Nat} (h : PSt B g1 g2 n p r z st v w0 w) (hb : B = w0.heap.size) (hf : Fam B 0 (fun g => g = g1 ∨ g = g2) (fun j => if j = 0 then v' else v) (fun j => if j = 0 then nats st ++ [(i : Int)] else nats st) w') (hg : w.grownBy w' v.ownBlock) : PSt B g1 g2 n p r z (st ++ [i]) v' w0 w' := by
  have hfar := h.fam.far 0 (Nat.le_refl _)
  have hke : ∀ g, (g = g1 ∨ g = g2) → some g ≠ v.ownBlock := fun g hg e => hfar g e.symm hg
  refine ⟨h.ord.kept hg (.inr (hke g1 (.inl rfl))), h.par.kept hg (.inr (hke g2 (.inr rfl))), ?_, ?_, h.ne, h.ge, ⟨Nat.lt_of_lt_of_le h.lt.1 hg.size, Nat.lt_of_lt_of_le h.lt.2 hg.size⟩⟩
  · have := hf.one
    simp only [if_pos] at this
    rwa [show nats (st ++ [i]) = nats st ++ [(i : Int)] by simp [nats]]
  · subst hb
    exact bl_grown h.below hg (fun g e => ((h.fam.own 0 (Nat.le_refl _)).lt g e).1)
/-- The parents that are stored when j nodes are laid. -/
def Par1 (p : List Int) (r : Nat → Nat) (n : Nat) (z : List Int) (j : Nat) : Prop := z.length = n ∧ ∀ i, i < n → preN p r i < j → z[i]? = p[i]?
theorem Par1.next {p : List Int} {r : Nat → Nat} {n j i : Nat} {z : List Int} {x : Int} (hF : Forest p r) (hn : n = p.length) (h : Par1 p r n z j) (hi : i < n) (hj : preN p r i = j) (hx : p[i]? = some x) : Par1 p r n (z.set i x) (j + 1) := by
  refine ⟨by simp [h.1], fun k hk hkj => ?_⟩
  rw [List.getElem?_set]
  by_cases e : i = k
  · subst e
    rw [if_pos rfl, if_pos (by rw [h.1]; exact hi), hx]
  · rw [if_neg e]
    refine h.2 k hk ?_
    have : preN p r k ≠ preN p r i := fun e' => e (preN_inj hF (by omega) (by omega) e'.symm)
    omega
theorem Par1.all {p : List Int} {r : Nat → Nat} {n : Nat} {z : List Int} (hF : Forest p r) (hn : n = p.length) (h : Par1 p r n z n) : z = p := by
  apply List.ext_getElem?
  intro i
  rcases Nat.lt_or_ge i n with hi | hi
  · exact h.2 i hi (by rw [hn]; exact preN_lt hF (by omega))
  · rw [List.getElem?_eq_none (by rw [h.1]; exact hi), List.getElem?_eq_none (by omega)]
/-- What the stack holds of the node that was laid last. -/
def Lst (p : List Int) (r : Nat → Nat) (st : List Nat) (j : Nat) : Prop := ∀ x, x < p.length → preN p r x + 1 = j → ∀ a, AncS p a x → a ∈ st
set_option maxHeartbeats 2000000 in
set_option maxRecDepth 100000 in
theorem parents_any (a : Option Addr) (n cap : Nat) (p : List Int) (r : Nat → Nat) (w : World) (h : IsLab w a n p r) (hc : n ≤ cap) (hcm : cap ≤ maxLen) (hm : n ≤ 4096) (hF : Forest p r) (hR : ∀ i, i < n → r i ≤ 4096) :
    Calls Tryz.prog 49 #[.slice a n cap] w fun e w' => ∃ g c, e = .returned (.tuple #[.slice (some ⟨g, 0, none⟩) n c, .int .i64 0]) ∧ Below w.heap.size w w' ∧ w.heap.size ≤ g ∧ IsI w' (some ⟨g, 0, none⟩) n p := by
  have HI := hide h
  have HN := hide h.1
  have HF := hide hF
  have HRR := hide hR
  unfold maxLen at hcm
  have HCM := hide hcm
  clear h hF hR hcm
  have h4 : ¬ (4096 : Int) < (n : Int) := by omega
  obtain ⟨i2, hi2, hz0, hz1, hz2⟩ := info_parts info_int
  go_enter Tryz.func49, Tryz.ntmps49
  go_wp2_with (at_make; go_loud (refine wpList_make_full _ rfl (.tmp 21) (.tmp 21) 27 rfl w.heap.size 3 i2 _ 1 Tryz.underlying27 hi2 hz0 hz1 .i64 .i64 _ _ n rfl rfl rfl rfl (by rw [hz2]; omega) (by simp only [maxLen]; omega) (Nat.le_refl _) ?_); intro w2 hown hg1; rw [made_one _ rfl] at hown; have hb2 : Below w.heap.size w w2 := bl_grown (bl_refl w) hg1 (fun k h => by cases h); have HO := hide hown; have HB := hide hb2; clear hown hg1 hb2)
  have HZ := hide (Ord1.start p r n)
  have hO := HO.out
  rw [show List.replicate n (Value.int .i64 0) = (List.replicate n (0 : Int)).map iv by rw [List.map_replicate]; rfl] at hO
  have HO := hide hO
  clear hO
  obtain ⟨g, hg⟩ : ∃ g, g = w.heap.size := ⟨_, rfl⟩
  obtain ⟨Z0, hZ0⟩ : ∃ Z0, Z0 = List.replicate n (0 : Int) := ⟨_, rfl⟩
  rw [← hZ0] at HO HZ
  rw [← hg] at HO HB ⊢
  have HG := hide hg
  clear hZ0 hg
  go_wp2_with fail
  go_loopw [25] (fun i wr => ∃ (j : Nat) (z : List Int), i = .int .i64 (j : Int) ∧ j ≤ n ∧ Hid (Ord1 p r n z j) ∧ Hid (wr.ownsRow g 3 1 (.slice (some ⟨g, 0, none⟩) n n) n (z.map iv)) ∧ Hid (Below g w wr)) (fun i _ => n - (intOf i).toNat)
  case atStart => exact ⟨0, Z0, rfl, Nat.zero_le _, HZ, HO, HB⟩
  case round =>
    obtain ⟨j, z, rfl, hj, HZj, HW, HX⟩ := hrel
    by_cases hjn : j < n
    · have hji : (j : Int) < (n : Int) := by omega
      have HIr := hide (HI.out.below (by rw [← HG.out]; exact HX.out))
      obtain ⟨b, o, rfl, hbl, e0, e1, e2⟩ := HIr.out.at_ hjn
      have hpl : preN p r j < n := by have := preN_lt HF.out (show j < p.length by rw [← HN.out]; exact hjn); rw [← HN.out] at this; exact this
      obtain ⟨pj, hpj⟩ : ∃ pj, pj = preN p r j := ⟨_, rfl⟩
      rw [← hpj] at hpl e0
      have HPJ := hide hpj
      clear hpj
      have hnp : ¬ n ≤ pj := by omega
      have hpz : z[pj]? = some 0 := by rw [HPJ.out]; exact HZj.out.zero HF.out HN.out hjn
      have HZ2 : Hid (Ord1 p r n (z.set pj ((j : Int) + 1)) (j + 1)) := hide (by rw [HPJ.out]; exact HZj.out.next HF.out HN.out hjn)
      obtain ⟨W1, hW1⟩ : ∃ W1, W1 = wr.alloc (.cells #[.int .i64 (pj : Int), .int .i64 (postN p r j : Int), .int .i64 (r j : Int)] 43 (0, 0)) := ⟨_, rfl⟩
      have hbw : Below wr.heap.size wr W1 := by rw [hW1]; exact bl_alloc (bl_refl wr) _
      have hW := own_below HW.out hbw
      obtain ⟨⟨v1, hv, m1⟩, f1⟩ := own_at hW hpl
      rw [List.getElem?_map, hpz] at hv
      injection hv with hv
      subst hv
      change W1.cell? ⟨g, pj, none⟩ = some (.int .i64 0) at m1
      have hset := own_set hW hpl (iv ((j : Int) + 1))
      rw [← List.map_set] at hset
      have HX2 : Hid (Below g w (W1.setCell ⟨g, pj, none⟩ (iv ((j : Int) + 1)))) := hide (by
        have h1 := HX.out
        rw [HG.out] at h1 ⊢
        exact bl_set (h1.trans (hbw.mono h1.size)) (Nat.le_refl _) _)
      rw [show iv ((j : Int) + 1) = Value.int .i64 ((j : Int) + 1) from rfl] at hset HX2
      rw [hW1] at m1 f1 hset HX2
      have HW2 := hide hset
      clear hbw hW hset hW1 hpz
      go_wp2
      go_roundw
      case rel => exact ⟨j + 1, z.set pj ((j : Int) + 1), by go_num, by omega, HZ2, HW2, HX2⟩
      case measure => simp [intOf]; omega
    · obtain rfl : j = n := by omega
      have hzz := HZj.out.all HF.out HN.out
      subst hzz
      clear HZ HO HB HZj
      generalize wr = w3 at *
      go_wp2_with (at_make; go_loud (refine wpList_make_full _ rfl (.tmp 54) (.tmp 54) 27 rfl w3.heap.size 3 i2 _ 1 Tryz.underlying27 hi2 hz0 hz1 .i64 .i64 _ _ j rfl rfl rfl rfl (by rw [hz2]; omega) (by simp only [maxLen]; omega) (Nat.le_refl _) ?_); intro w4 hown hg1; rw [made_one _ rfl] at hown; have hb2 : Below w3.heap.size w3 w4 := bl_grown (bl_refl w3) hg1 (fun k h => by cases h); have HO := hide hown; have HB := hide hb2; clear hown hg1 hb2)
      have hO := HO.out
      rw [show List.replicate j (Value.int .i64 0) = (List.replicate j (0 : Int)).map iv by rw [List.map_replicate]; rfl] at hO
      obtain ⟨g2, hg2⟩ : ∃ g2, g2 = w3.heap.size := ⟨_, rfl⟩
      have hgl : g < w3.heap.size := by
        rcases HW.out.2 with ⟨h, _⟩ | ⟨g', _, _, h, _, hh, _⟩
        · cases h
        · injection h with h; injection h with h; injection h with h
          rw [h]; exact (Array.getElem?_eq_some_iff.1 hh).1
      have hgl4 : w3.heap.size < w4.heap.size := by
        rcases HO.out.2 with ⟨h, _⟩ | ⟨g', _, _, h, _, hh, _⟩
        · cases h
        · injection h with h; injection h with h; injection h with h
          rw [h]; exact (Array.getElem?_eq_some_iff.1 hh).1
      have HP : Hid (PSt w.heap.size g g2 j p r (List.replicate j 0) [] (.slice none 0 0) w w4) := hide (by
        subst hg2
        have h1 := HX.out
        have h2 := HW.out
        rw [HG.out] at h1 h2 hgl ⊢
        refine ⟨own_below h2 HB.out, own_base hO (by omega), ⟨fun i hi => World.ownsRow_nil _ _ _ _, fun i k hi hk hik => absurd hik (by omega), fun i hi g h => by simp [Value.ownBlock] at h⟩, h1.trans (HB.out.mono (by omega)), by omega, ⟨Nat.le_refl _, by omega⟩, ⟨by omega, hgl4⟩⟩)
      have HPA : Hid (Par1 p r j (List.replicate j 0) 0) := hide ⟨by simp, fun i hi h => absurd h (by omega)⟩
      rw [← hg2]
      obtain ⟨n, hnj⟩ : ∃ n, n = j := ⟨_, rfl⟩
      subst hnj
      clear hO hg2 hgl hgl4 HO HB HW HX hj hjn
      go_wp2_with fail
      go_loopw [9, 58] (fun ov kv wr => ∃ (k : Nat) (z : List Int) (st : List Nat), kv = .int .i64 (k : Int) ∧ k ≤ n ∧ Hid (PSt w.heap.size g g2 n p r z st ov w wr) ∧ Hid (Stk p r st k) ∧ Hid (Lst p r st k) ∧ Hid (Par1 p r n z k)) (fun _ kv _ => n - (intOf kv).toNat)
      case atStart => exact ⟨0, _, [], rfl, Nat.zero_le _, HP, hide (Stk.nil _ _ _), hide (fun x hx h => absurd h (by omega)), HPA⟩
      case round =>
        obtain ⟨k, z, st, rfl, hk, HPk, HSk, HLk, HAk⟩ := hrel
        by_cases hkn : k < n
        · have hki : (k : Int) < (n : Int) := by omega
          obtain ⟨i, hi⟩ : ∃ i, (PRE p (fuelF p r))[k]? = some i := ⟨_, List.getElem?_eq_getElem (by rw [PRE_len HF.out, ← HN.out]; exact hkn)⟩
          have hin := preN_at HF.out hi
          rw [← HN.out] at hin
          obtain ⟨hin, hpk⟩ := hin
          have HPN := hide hpk
          obtain ⟨⟨v1, hv, m1⟩, f1⟩ := own_at HPk.out.ord hkn
          rw [List.getElem?_map] at hv
          unfold ordI at hv
          rw [List.getElem?_map, hi] at hv
          injection hv with hv
          subst hv
          change wr.cell? ⟨g, k, none⟩ = some (.int .i64 ((i : Int) + 1)) at m1
          have HQk : Hid (∀ q, Par p q i → q ∈ st) := hide (Stk.parent HF.out (by rw [← HN.out]; exact hin) hpk HLk.out)
          clear hi hpk
          go_wp2_with fail
          obtain ⟨w5, hw5⟩ : ∃ w5, w5 = wr := ⟨_, rfl⟩
          rw [← hw5] at HPk ⊢
          clear hw5 m1 f1
          go_loopw [9] (fun ov wr => ∃ (st : List Nat), Hid (PSt w.heap.size g g2 n p r z st ov w wr) ∧ Hid (Stk p r st k) ∧ Hid (∀ q, Par p q i → q ∈ st)) (fun ov _ => lenS ov)
          case atStart => exact ⟨st, HPk, HSk, HQk⟩
          case round =>
            clear HSk HLk HQk HPk
            obtain ⟨st, HPk, HSk, HQk⟩ := hrel
            obtain ⟨A, c, hv, hmc, hcm2, hIs⟩ := own_isI (HPk.out.fam.own 0 (Nat.le_refl _)) rfl
            obtain ⟨m, hm1⟩ : ∃ m, m = (nats st).length := ⟨_, rfl⟩
            rw [← hm1] at hv hmc hIs
            subst hv
            have HIs := hide hIs
            have HCM2 := hide hcm2
            have hms : m = st.length := by rw [hm1]; simp [nats]
            have HMS := hide hms
            clear hIs hcm2 hm1
            have hm4 : m ≤ 4096 := by have := HSk.out.len; omega
            rcases List.eq_nil_or_concat st with rfl | ⟨st', t, rfl⟩
            · have hm0 : m = 0 := by rw [hms]; rfl
              subst hm0
              clear hms
              have HTI := hide (HSk.out.topI_eq HF.out (by rw [← HN.out]; exact hin) HPN.out HQk.out (fun t ht => by simp at ht))
              have HSP := hide (HSk.out.push (by rw [← HN.out]; exact hin) HPN.out HTI.out.2)
              have HLP : Hid (Lst p r ([] ++ [i]) (k + 1)) := hide (fun x hx hxk => by
                obtain rfl : x = i := preN_inj HF.out hx (by rw [← HN.out]; exact hin) (by have := HPN.out; omega)
                exact HSP.out.all)
              have HAP : Hid (Par1 p r n (z.set i (-1)) (k + 1)) := hide (HAk.out.next HF.out HN.out hin HPN.out HTI.out.1)
              go_wp2_with fail
              refine wp_region_K 21 (by kernel_rfl) (by kernel_rfl) (fun Q HQ => ?_)
              simp only [List.take_succ_cons, List.take_zero, List.map_cons, List.map_nil]
              repeat
                first
                | (refine wpS_skip (b := true) rfl (guard_mk rfl rfl) ?_)
                | (refine wpS_skip (b := false) rfl (guard_mk rfl rfl) ?_)
                | (refine wpS_skipU rfl (guardU_mk rfl rfl) ?_)
                | (first | apply wpS_c rfl | apply wpS_gc rfl (guard_mk rfl rfl)
                   focus
                     intro ev wx hC hx
                     (try simp [Op.operands, Call.operands, opndS, Slot.holds] at hx)
                     go_simp
                     try (first | exact rfl | exact ⟨Below.refl _ _, rfl⟩)
                     done)
                dsimp only [setS, List.set]
              refine wpS_nil (HQ _ fun w6 hC6 => ?_)
              simp only [closeS, List.drop_succ_cons, List.drop_zero, List.drop_nil]
              have HP6 := hide (HPk.out.below' hC6.below)
              clear HQ hC6
              obtain ⟨⟨v1, hv1, m1⟩, f1⟩ := own_at HP6.out.par hin
              have HP7 := hide (HP6.out.setp hin (-1))
              clear hv1 HTI
              have HFA := hide ((HP7.out.below' (bl_alloc (bl_refl (w6.setCell ⟨g2, i, none⟩ (.int .i64 (-1)))) (.cells #[.int .i64 (i : Int)] 3 (0, 0)))))
              have hf1 := HFA.out.fam
              have hr1 := rd_lit (w6.setCell ⟨g2, i, none⟩ (.int .i64 (-1))) #[.int .i64 (i : Int)] 3 (0, 0)
              rw [show ((w6.setCell ⟨g2, i, none⟩ (.int .i64 (-1)))).heap.size = w6.heap.size by simp [World.setCell]] at hr1
              have hln : (nats ([] : List Nat)).length ≤ 100000 := by rw [nats_len]; have := HSk.out.len; omega
              have hbs : w.heap.size ≤ ((w6.setCell ⟨g2, i, none⟩ (.int .i64 (-1))).alloc (.cells #[.int .i64 (i : Int)] 3 (0, 0))).heap.size := HFA.out.below.size
              have hbad : ∀ q, (q = g ∨ q = g2) → q < ((w6.setCell ⟨g2, i, none⟩ (.int .i64 (-1))).alloc (.cells #[.int .i64 (i : Int)] 3 (0, 0))).heap.size := fun q hq => by
                rcases hq with rfl | rfl
                · exact HFA.out.lt.1
                · exact HFA.out.lt.2
              have HF1 := hide hf1
              have HR1 := hide hr1
              have HLN := hide hln
              have HBS := hide hbs
              have HBAD := hide hbad
              clear hf1 hr1 hln hbs hbad
              go_wp2_with (at_builtin; go_loud (refine wpList_append_fam rfl (.tmp 105) (.tmp 107) 27 rfl Tryz.underlying27 w.heap.size 0 _ (fun _ => (Value.slice A 0 c)) (fun _ => nats ([] : List Nat)) HF1.out 0 (Nat.le_refl 0) HBAD.out rfl (some ⟨w6.heap.size, 0, none⟩) 1 (i : Int) rfl HR1.out HLN.out HBS.out ?_); intro v' w' hf' hg'; have HPS := hide (HFA.out.push rfl hf' hg'); clear hf' hg')
              go_roundw
              case rel => exact ⟨k + 1, _, _, by go_num, by omega, HPS, HSP, HLP, HAP⟩
              case measure => simp [intOf]; omega
            · rw [List.concat_eq_append] at *
              obtain ⟨m', rfl⟩ : ∃ m', m = m' + 1 := ⟨st'.length, by rw [hms]; simp⟩
              have hml : m' = st'.length := by simp at hms; omega
              have ho := HPk.out.fam.own 0 (Nat.le_refl _)
              rw [nats_len] at ho
              obtain ⟨gg, c', hv, _⟩ := own_pos ho (by simp)
              injection hv with hv hvx hv2
              clear hvx
              subst hv hv2
              have htl : (st' ++ [t]).getLast? = some t := by simp
              have htn : t < n := by rw [HN.out]; exact (HSk.out.lt t (by simp)).1
              have g0 := HIs.out.cell (k := m') (x := (t : Int)) (by unfold nats; rw [List.getElem?_map, hml]; simp)
              rw [Nat.zero_add] at g0
              have HIr := hide (HI.out.below (HPk.out.below))
              obtain ⟨bl, ol, rfl, hbl, _, lt1, _⟩ := HIr.out.at_ htn
              obtain ⟨_, li1, _⟩ := HIr.out.cells hin
              clear ho hms
              obtain ⟨pt, hpt⟩ : ∃ pt, pt = postN p r t := ⟨_, rfl⟩
              obtain ⟨pi, hpi⟩ : ∃ pi, pi = postN p r i := ⟨_, rfl⟩
              rw [← hpt] at lt1
              rw [← hpi] at li1
              have HPT := hide hpt
              have HPI := hide hpi
              clear hpt hpi
              have f0 : ∀ wx, CB wr.drew wx → wx.cell? ⟨gg, m', none⟩ = some (.int .i64 (t : Int)) := fun wx h => h.cell g0
              have f1 : ∀ wx, CB wr.drew wx → wx.cell? ⟨bl, ol + t * 3 + 1, none⟩ = some (.int .i64 (pt : Int)) := fun wx h => h.cell lt1
              have f2 : ∀ wx, CB wr.drew wx → wx.cell? ⟨bl, ol + i * 3 + 1, none⟩ = some (.int .i64 (pi : Int)) := fun wx h => h.cell li1
              clear g0 lt1 li1
              have HML := hide hml
              clear hml
              have hw : IntKind.i64.wrap (m' : Int) = (m' : Int) := by rw [IntKind.wrap_i64]; omega
              have hmi : (m' : Int) < (m' : Int) + 1 := by omega
              have hti0 : (t : Int) < (n : Int) := by omega
              have hii0 : (i : Int) < (n : Int) := by omega
              go_wp2_with fail
              refine wp_region_K 21 (by kernel_rfl) (by kernel_rfl) (fun Q HQ => ?_)
              simp only [List.take_succ_cons, List.take_zero, List.map_cons, List.map_nil]
              repeat
                first
                | (refine wpS_skip (b := true) rfl (guard_mk rfl rfl) ?_)
                | (refine wpS_skip (b := false) rfl (guard_mk rfl rfl) ?_)
                | (refine wpS_skipU rfl (guardU_mk rfl rfl) ?_)
                | (first | apply wpS_c rfl | apply wpS_gc rfl (guard_mk rfl rfl)
                   focus
                     intro ev wx hC hx
                     (try simp [Op.operands, Call.operands, opndS, Slot.holds] at hx)
                     go_simp
                     try (first | exact rfl | exact ⟨Below.refl _ _, rfl⟩)
                     done)
                dsimp only [setS, List.set]
              refine wpS_nil (HQ _ fun w6 hC6 => ?_)
              simp only [closeS, List.drop_succ_cons, List.drop_zero, List.drop_nil]
              have HP6 := hide (HPk.out.below' hC6.below)
              clear HQ hC6
              by_cases hlt : pt < pi
              · have hlt' : (pt : Int) < (pi : Int) := by omega
                have HSP := hide HSk.out.pop
                have HQP := hide (HSk.out.popq HF.out (by rw [← HN.out]; exact hin) HPN.out HQk.out htl (by rw [← HPT.out, ← HPI.out]; exact hlt))
                rw [List.dropLast_concat] at HSP HQP
                have hpop := HP6.out.fam
                rw [show nats (st' ++ [t]) = nats st' ++ [(t : Int)] by simp [nats]] at hpop
                have HPP : Hid (PSt w.heap.size g g2 n p r z st' (.slice (some ⟨gg, 0, none⟩) m' c) w w6) := hide ⟨HP6.out.ord, HP6.out.par, hpop.pop (by rw [nats_len]; exact HML.out), HP6.out.below, HP6.out.ne, HP6.out.ge, HP6.out.lt⟩
                clear hpop
                have hc0 : ¬ c = 0 := by omega
                have hmc2 : m' ≤ c := by omega
                go_wp2
                go_roundw
                case rel => exact ⟨st', HPP, HSP, HQP⟩
                case measure => simp [lenS]
              · have hlt' : ¬ (pt : Int) < (pi : Int) := by omega
                have HTI := hide (HSk.out.topI_eq HF.out (by rw [← HN.out]; exact hin) HPN.out HQk.out (fun q hq => by
                  rw [htl] at hq
                  injection hq with hq
                  subst hq
                  rw [← HPT.out, ← HPI.out]; exact hlt))
                have hti : topI (st' ++ [t]) = (t : Int) := by unfold topI; rw [htl]
                have HSP := hide (HSk.out.push (by rw [← HN.out]; exact hin) HPN.out HTI.out.2)
                have HLP : Hid (Lst p r ((st' ++ [t]) ++ [i]) (k + 1)) := hide (fun x hx hxk => by
                  obtain rfl : x = i := preN_inj HF.out hx (by rw [← HN.out]; exact hin) (by have := HPN.out; omega)
                  exact HSP.out.all)
                have HAP : Hid (Par1 p r n ((z.set i (-1)).set i (t : Int)) (k + 1)) := hide (by
                  rw [List.set_set]
                  exact HAk.out.next HF.out HN.out hin HPN.out (by rw [← hti]; exact HTI.out.1))
                obtain ⟨⟨v1, hv1, m1⟩, f1'⟩ := own_at HP6.out.par hin
                have HP6' := hide (HP6.out.setp hin (-1))
                obtain ⟨⟨v2, hv2, m2⟩, f2'⟩ := own_at HP6'.out.par hin
                obtain ⟨A2, c2, hv3, _, _, hI2⟩ := own_isI (HP6'.out.fam.own 0 (Nat.le_refl _)) rfl
                injection hv3 with hv3 hv4 hv5
                subst hv3
                have m3 := hI2.cell (k := m') (x := (t : Int)) (by unfold nats; rw [List.getElem?_map, HML.out]; simp)
                rw [Nat.zero_add] at m3
                have HP7 := hide (HP6'.out.setp hin (t : Int))
                clear hv1 hv2 hv4 hv5 hI2 HTI hti htl f0 f1 f2 hlt
                have HFA := hide ((HP7.out.below' (bl_alloc (bl_refl ((w6.setCell ⟨g2, i, none⟩ (.int .i64 (-1))).setCell ⟨g2, i, none⟩ (.int .i64 (t : Int)))) (.cells #[.int .i64 (i : Int)] 3 (0, 0)))))
                have hf1 := HFA.out.fam
                have hr1 := rd_lit ((w6.setCell ⟨g2, i, none⟩ (.int .i64 (-1))).setCell ⟨g2, i, none⟩ (.int .i64 (t : Int))) #[.int .i64 (i : Int)] 3 (0, 0)
                rw [show (((w6.setCell ⟨g2, i, none⟩ (.int .i64 (-1))).setCell ⟨g2, i, none⟩ (.int .i64 (t : Int)))).heap.size = w6.heap.size by simp [World.setCell]] at hr1
                have hln : (nats (st' ++ [t])).length ≤ 100000 := by rw [nats_len]; have := HSk.out.len; omega
                have hbs : w.heap.size ≤ (((w6.setCell ⟨g2, i, none⟩ (.int .i64 (-1))).setCell ⟨g2, i, none⟩ (.int .i64 (t : Int))).alloc (.cells #[.int .i64 (i : Int)] 3 (0, 0))).heap.size := HFA.out.below.size
                have hbad : ∀ q, (q = g ∨ q = g2) → q < (((w6.setCell ⟨g2, i, none⟩ (.int .i64 (-1))).setCell ⟨g2, i, none⟩ (.int .i64 (t : Int))).alloc (.cells #[.int .i64 (i : Int)] 3 (0, 0))).heap.size := fun q hq => by
                  rcases hq with rfl | rfl
                  · exact HFA.out.lt.1
                  · exact HFA.out.lt.2
                have HF1 := hide hf1
                have HR1 := hide hr1
                have HLN := hide hln
                have HBS := hide hbs
                have HBAD := hide hbad
                clear hf1 hr1 hln hbs hbad
                go_wp2_with (at_builtin; go_loud (refine wpList_append_fam rfl (.tmp 105) (.tmp 107) 27 rfl Tryz.underlying27 w.heap.size 0 _ (fun _ => (Value.slice (some ⟨gg, 0, none⟩) (m' + 1) c)) (fun _ => nats (st' ++ [t])) HF1.out 0 (Nat.le_refl 0) HBAD.out rfl (some ⟨w6.heap.size, 0, none⟩) 1 (i : Int) rfl HR1.out HLN.out HBS.out ?_); intro v' w' hf' hg'; have HPS := hide (HFA.out.push rfl hf' hg'); clear hf' hg')
                go_roundw
                case rel => exact ⟨k + 1, _, _, by go_num, by omega, HPS, HSP, HLP, HAP⟩
                case measure => simp [intOf]; omega
        · obtain rfl : k = n := by omega
          have hzp := HAk.out.all HF.out HN.out
          subst hzp
          have HIZ : Hid (IsI wr (some ⟨g2, 0, none⟩) k z) := hide (by
            obtain ⟨_, _, e, _, _, hI⟩ := own_isI HPk.out.par HN.out
            injection e with e1
            rw [e1]; exact hI)
          have hkm : k ≤ maxLen := by simp only [maxLen]; omega
          clear hkn hk HP HPA HSk HLk HAk
          obtain ⟨w8, hw8⟩ : ∃ w8, w8 = wr := ⟨_, rfl⟩
          rw [← hw8] at HPk HIZ ⊢
          clear hw8
          go_wp2_with fail
          refine (assign_any (some ⟨g2, 0, none⟩) k k z r w8 HIZ.out (Nat.le_refl k) hkm hm HF.out HRR.out).mono ?_
          rintro e w9 ⟨lb, rfl, hb9, hlb, hl9⟩
          have HB9 := hide hb9
          have HL9 : Hid (IsLab w9 (some ⟨lb, 0, none⟩) k z r) := hide ⟨HN.out, .inr ⟨lb, 0, rfl, (Array.getElem?_eq_some_iff.1 hl9).1, fun j v hv => by rw [cell_of_row w9 lb _ _ _ _ hl9]; simpa using hv⟩⟩
          have HL : Hid (IsLab w9 a k z r) := hide ((HI.out.below HPk.out.below).below HB9.out)
          have HIZ9 := hide (HIZ.out.below HB9.out)
          have HB := hide (HPk.out.below.trans (HB9.out.mono HPk.out.below.size))
          have HGE := hide HPk.out.ge.2
          clear hb9 hl9 hlb hkm HPk HIZ HB9
          go_wp2_with fail
          go_loopw [120] (fun kv wr => ∃ (j : Nat), kv = .int .i64 (j : Int) ∧ j ≤ k ∧ Hid (Below w9.heap.size w9 wr)) (fun kv _ => k - (intOf kv).toNat)
          case atStart => exact ⟨0, rfl, Nat.zero_le _, hide (bl_refl w9)⟩
          case round =>
            obtain ⟨j, rfl, hj, HBj⟩ := hrel
            by_cases hjk : j < k
            · have hji : (j : Int) < (k : Int) := by omega
              have HLr := hide (HL.out.below HBj.out)
              have HLr9 := hide (HL9.out.below HBj.out)
              obtain ⟨bl, ol, rfl, hbl, l0, l1, l2⟩ := HLr.out.at_ hjk
              obtain ⟨k0, k1, k2⟩ := HLr9.out.cells hjk
              rw [Nat.zero_add] at k0 k1 k2
              have f0 : ∀ wx, CB wr.drew wx → wx.cell? ⟨bl, ol + j * 3, none⟩ = some (.int .i64 (preN z r j : Int)) ∧ wx.cell? ⟨bl, ol + j * 3 + 1, none⟩ = some (.int .i64 (postN z r j : Int)) ∧ wx.cell? ⟨bl, ol + j * 3 + 2, none⟩ = some (.int .i64 (r j : Int)) := fun wx h => ⟨h.cell l0, h.cell l1, h.cell l2⟩
              have f1 : ∀ wx, CB wr.drew wx → wx.cell? ⟨lb, j * 3, none⟩ = some (.int .i64 (preN z r j : Int)) ∧ wx.cell? ⟨lb, j * 3 + 1, none⟩ = some (.int .i64 (postN z r j : Int)) ∧ wx.cell? ⟨lb, j * 3 + 2, none⟩ = some (.int .i64 (r j : Int)) := fun wx h => ⟨h.cell k0, h.cell k1, h.cell k2⟩
              clear l0 l1 l2 k0 k1 k2
              go_wp2_with fail
              refine wp_region_K 9 (by kernel_rfl) (by kernel_rfl) (fun Q HQ => ?_)
              simp only [List.take_succ_cons, List.take_zero, List.map_cons, List.map_nil]
              repeat
                first | apply wpS_c rfl | apply wpS_gc rfl (guard_mk rfl rfl)
                focus
                  intro ev wx hC hx
                  (try simp [Op.operands, Call.operands, opndS, Slot.holds] at hx)
                  obtain ⟨p0, p1, p2⟩ := f0 _ hC
                  obtain ⟨q0, q1, q2⟩ := f1 _ hC
                  go_simp
                  try (first | exact rfl | exact ⟨Below.refl _ _, rfl⟩)
                  done
                dsimp only [setS, List.set]
              refine wpS_nil (HQ _ fun w6 hC6 => ?_)
              simp only [closeS, List.drop_succ_cons, List.drop_zero, List.drop_nil]
              have HB6 := hide (HBj.out.trans (hC6.below.mono HBj.out.size))
              clear HQ hC6 f0 f1
              go_wp2
              go_roundw
              case rel => exact ⟨j + 1, by go_num, by omega, HB6⟩
              case measure => simp [intOf]; omega
            · obtain rfl : j = k := by omega
              have HBB := hide (HB.out.trans (HBj.out.mono HB.out.size))
              have HIZZ := hide (HIZ9.out.below HBj.out)
              clear hjk
              go_wp2_with fail
              go_ret2
              exact ⟨g2, j, rfl, HBB.out, HGE.out, HIZZ.out⟩
end Go.Proofs.YtbpkclopcoaikaaGreatDoor
