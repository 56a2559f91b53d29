/- The walks of the reference's insert and Merge. -/
import Derived.Test.YtjiijhbkbmnhbaaLOpsW
import Derived.Test.YtjiijhbkbmnhbaaLM2
namespace Go.Proofs.Ytjiijhbkbmnhbaa
open Go.RowKit
set_option linter.unusedVariables false
set_option linter.unusedSimpArgs false
/-- An append leaves what lies in rows of the call's own, up to the length that it began from. -/
theorem append_keep {P : Program} {w : World} {base : Nat} {t ty e : TypeId} {i : TypeInfo} {z : Value} {bytes : Nat} (ht : P.underlying t = some (.slice e)) (hi : P.info? e = some i) (hz : i.zero = some z)
    (hsize : i.size = 1) (hby : i.bytes = bytes) (hzs : z.cells.size = 1) {v : Value} {n : Nat} {xs : List Value} (hown : w.ownsRow base e 1 v n xs)
    {A : Option Addr} {m c : Nat} {news : List Value} (hl : news.length = m) (hr : Rd w A news) (h1 : ∀ u ∈ news, u.oneCell' = true)
    (h63 : n + m ≤ maxLen) (hbytes : (n + m) * bytes ≤ 140737488355328) {v' : Value} {w' : World} (hrun : (Builtin.append_ #[t, t] ty #[v, .slice A m c]).run P w = .ok v' w')
    {base2 : Nat} {u : Value} {k : Nat} {ys : List Value} (hu : w.ownsRow base2 e 1 u k ys) (hk : k ≤ n) : w'.ownsRow base2 e 1 u k ys := by
  subst hby
  have hsmall : n + m ≤ 9223372036854775807 := by simp only [maxLen] at h63; omega
  rcases hown.2 with ⟨rfl, rfl⟩ | ⟨g, cap, cur, rfl, hbg, hg, hnc, hcm, hcs, htake⟩
  · obtain rfl : k = 0 := by omega
    have hy : ys = [] := List.eq_nil_of_length_eq_zero (by simpa using hu.1)
    subst hy
    refine ⟨rfl, ?_⟩
    rcases A with _ | ad
    · have hm : m = 0 := by
        rcases hr with h | ⟨b, o, h, _⟩
        · rw [← hl, h]; rfl
        · cases h
      subst hm
      rw [run_append_nothing w base t ty e i 1 ht hi (.slice none 0 0) 0 xs hown c] at hrun
      injection hrun with _ hrun
      subst hrun
      exact hu.2
    · by_cases hm : m = 0
      · subst hm
        have hn : news = [] := List.eq_nil_of_length_eq_zero hl
        subst hn
        simp [Builtin.append_, run_underlying ht, sizeOf, typeInfo, hi, Builtin.lenOf, Builtin.firstCells, loadCells, loadCellsFrom] at hrun
        obtain ⟨_, hrun⟩ := hrun
        subst hrun
        exact hu.2
      · rw [run_append_nil (P := P) w t ty e i z ht hi hz ad m c news (by rw [hsize]; omega) (hr.cells ad rfl) (by omega) (by omega) (by have hb := hbytes; simp only [Nat.zero_add] at hb; omega)] at hrun
        injection hrun with _ hrun
        subst hrun
        exact (own_below (own_below (show w.ownsRow base2 e 1 u 0 [] from hu) (bl_drew (bl_refl w))) (bl_alloc (bl_refl w.drew) _)).2
  · rcases A with _ | ad
    · have hm : m = 0 := by
        rcases hr with h | ⟨b, o, h, _⟩
        · rw [← hl, h]; rfl
        · cases h
      subst hm
      rw [run_append_nothing w base t ty e i 1 ht hi _ n xs hown c] at hrun
      injection hrun with _ hrun
      subst hrun
      exact hu
    · by_cases hroom : n + m ≤ cap
      · have hfit : n * i.size + news.length ≤ cur.size := by rw [hl, hcs, hsize, Nat.mul_one, Nat.mul_one]; exact hroom
        rw [run_append_room (P := P) w t ty e i ht hi g n cap cur hg ad m c news (by rw [hsize]; omega) (hr.cells ad rfl) h1 hroom hfit] at hrun
        injection hrun with _ hrun
        subst hrun
        refine ⟨hu.1, ?_⟩
        rcases hu.2 with h | ⟨g2, cap2, cur2, rfl, hb2, hg2, hn2, hm2, hs2, ht2⟩
        · exact .inl h
        · by_cases hgg : g2 = g
          · subst hgg
            rw [hg] at hg2
            injection hg2 with hg2
            injection hg2 with hg2
            subst hg2
            refine .inr ⟨g2, cap2, _, rfl, hb2, setRow_heap w g2 cur _ e _ hg, hn2, hm2, ?_, ?_⟩
            · simp only [List.size_toArray, List.length_append, List.length_take, List.length_drop, Array.length_toList]
              omega
            · rw [← ht2, hsize, Nat.mul_one, Nat.mul_one, List.append_assoc, List.take_append_of_le_length (by simp; omega), List.take_take, Nat.min_eq_left hk]
          · exact .inr ⟨g2, cap2, cur2, rfl, hb2, (setRow_other w g g2 _ (fun e => hgg e)).trans hg2, hn2, hm2, hs2, ht2⟩
      · have holds : ∀ j u, xs[j]? = some u → w.cell? ((⟨g, 0, none⟩ : Addr).add j) = some u := hown.cells (g := g) rfl
        rw [run_append_grow (P := P) w t ty e i z ht hi hz ⟨g, 0, none⟩ n cap xs (by rw [hsize]; exact hown.1) holds ad m c news (by rw [hsize]; omega) (hr.cells ad rfl) (by omega) (by omega) (growslice_fits (by omega) hbytes)] at hrun
        injection hrun with _ hrun
        subst hrun
        exact own_below (own_below hu (bl_drew (bl_refl w))) (bl_alloc (bl_refl w.drew) _)
theorem append_rd_keep {P : Program} (w : World) (base : Nat) (t ty e : TypeId) (i : TypeInfo) (z : Value) (bytes : Nat) (ht : P.underlying t = some (.slice e)) (hi : P.info? e = some i) (hz : i.zero = some z)
    (hsize : i.size = 1) (hby : i.bytes = bytes) (hzs : z.cells.size = 1)
    (v : Value) (n : Nat) (xs : List Value) (hown : w.ownsRow base e 1 v n xs)
    (A : Option Addr) (m c : Nat) (news : List Value) (hl : news.length = m) (hr : Rd w A news) (h1 : ∀ u ∈ news, u.oneCell' = true)
    (h63 : n + m ≤ maxLen) (hbytes : (n + m) * bytes ≤ 140737488355328) (hbase : base ≤ w.heap.size) :
    ∃ v' w', (Builtin.append_ #[t, t] ty #[v, .slice A m c]).run P w = .ok v' w' ∧ w'.ownsRow base e 1 v' (n + m) (xs ++ news) ∧ w.grownBy w' v.ownBlock ∧
      ∀ (base2 : Nat) (u : Value) (k : Nat) (ys : List Value), k ≤ n → w.ownsRow base2 e 1 u k ys → w'.ownsRow base2 e 1 u k ys := by
  obtain ⟨v', w', h2, h3, h4, h5⟩ := run_append_rd (P := P) w base t ty e i z 1 bytes ht hi hz hsize hby hzs (by omega) v n xs hown A m c news (by omega) hr h1 h63 hbytes hbase
  exact ⟨v', w', h2, h3, h4, fun base2 u k ys hk hu => append_keep ht hi hz hsize hby hzs hown hl hr h1 h63 hbytes h2 hu hk⟩
/-! insert. -/
def NI (k : Nat) : Nat → Nat := fun j => if j = 6 ∧ k ≠ 0 then k else if j = 10 then k + 1 else 1000000000
theorem NI_k (k j : Nat) (h : k ≤ 100000) : k ≤ NI k j := by unfold NI; by_cases h1 : j = 6 ∧ k ≠ 0 <;> by_cases h2 : j = 10 <;> simp [h1, h2] <;> omega
theorem NI_1 (k j : Nat) : 1 ≤ NI k j := by unfold NI; by_cases h1 : j = 6 ∧ k ≠ 0 <;> by_cases h2 : j = 10 <;> simp [h1, h2] <;> omega
theorem NI_k1 (k j : Nat) (h : k ≤ 100000) (h6 : j ≠ 6) : k + 1 ≤ NI k j := by unfold NI; by_cases h2 : j = 10 <;> simp [h6, h2] <;> omega
theorem NI_big (k j : Nat) (h6 : j ≠ 6) (h10 : j ≠ 10) : 1000000000 ≤ NI k j := by unfold NI; simp [h6, h10]
def EN (base k : Nat) : Nat → World → World → Prop := fun j w w' => Below base w w' ∧ ∀ (u : Value) (n : Nat) (xs : List Value), n ≤ NI k j → w.ownsRow base 3 1 u n xs → w'.ownsRow base 3 1 u n xs
theorem EN.of {base k j : Nat} {w w' : World} (hb : Below w.heap.size w w') (hs : base ≤ w.heap.size) : EN base k j w w' := ⟨hb.mono hs, fun _ _ _ _ h => own_below h hb⟩
theorem stabEN {m : List Nat} {base k n i : Nat} {xs : List Value} (h : ∀ j, j ≠ i → (m.getD i 0).testBit j = false → n ≤ NI k j) : StabF m (EN base k) i (.p (POi base n xs)) := fun j hj hm u w w' hE hu => hE.2 u n xs (h j hj hm) hu
def GN (W : World) (base : Nat) : (Nat → Bool) → World → Prop := fun _ w => Below base W w ∧ base ≤ w.heap.size
def POk (base k : Nat) (xs : List Value) : Value → World → Prop := fun v w => w.ownsRow base 3 1 v k xs ∧ (k = 0 → v = .slice none 0 0)
theorem stabPOk {m : List Nat} {base k n i : Nat} {xs : List Value} (h : ∀ j, j ≠ i → (m.getD i 0).testBit j = false → n ≤ NI k j) : StabF m (EN base k) i (.p (POk base n xs)) := fun j hj hm u w w' hE hu => ⟨hE.2 u n xs (h j hj hm) hu.1, hu.2⟩
theorem bl_grown' {base : Nat} {a b : World} {row : Option Nat} (hg : a.grownBy b row) (hs : base ≤ a.heap.size) (hr : ∀ k, row = some k → base ≤ k) : Below base a b :=
  (Below.refl base a).grown hg hs hr
theorem GN.same {W : World} {base : Nat} {L L' : Nat → Bool} {w w' : World} (h : GN W base L w) (hb : Below base w w') : GN W base L' w' := ⟨h.1.trans hb, Nat.le_trans h.2 hb.size⟩
def PBn (base : Nat) (x : Int) : Value → World → Prop := fun v w => ∃ gb, v = .slice (some ⟨gb, 0, none⟩) 1 1 ∧ w.ownsRow base 3 1 v 1 [iv x]
set_option maxHeartbeats 2000000 in
set_option maxRecDepth 100000 in
theorem insert_any (a : Option Addr) (n c : Nat) (l : List Int) (x : Int) (base : Nat) (w : World) (hown : w.ownsRow base 3 1 (.slice a n c) l.length (l.map iv)) (ha : IsI w a n l) (hc : n ≤ c) (hcm : c ≤ maxLen) (hn : n ≤ 100000) (hasc : asc l) (hbase : base ≤ w.heap.size) :
    Calls Try.prog 33 #[.slice a n c, .int .i64 x] w fun e w' => ∃ v, e = .returned v ∧ w'.ownsRow base 3 1 v (uni l [x]).length ((uni l [x]).map iv) ∧ Below w.heap.size w w' := by
  obtain ⟨i0, hi0, hz0, hz1, hz2⟩ := info_parts info_int
  have HI := hide ha
  have HN := hide ha.1
  have HOWN := hide hown
  have HASC := hide hasc
  clear ha hown hasc
  go_enter Try.func33, Try.ntmps33
  go_wp2_with fail
  go_loopw [5] (fun i wr => ∃ k : Nat, i = .int .i64 (k : Int) ∧ k ≤ n ∧ Hid (∀ y ∈ l.drop k, x < y) ∧ Below w.heap.size w wr) (fun i _ => (intOf i).toNat)
  case atStart => exact ⟨n, rfl, Nat.le_refl _, hide (by rw [HN.out]; simp), bl_refl w⟩
  case round =>
    obtain ⟨k, rfl, hk, HGT, hb⟩ := hrel
    by_cases hk0 : k = 0
    · have HLT : Hid (∀ y ∈ l.take k, y < x) := hide (by rw [hk0]; simp)
      have hk0' : ¬ (0 : Int) < (k : Int) := by omega
      clear hk0
      have h1n : k ≤ c := by omega
      have hkc : (k : Int) ≤ (c : Int) := by omega
      have hkn : (k : Int) ≤ (n : Int) := by omega
      have huni := ins_mid HASC.out HLT.out HGT.out
      have HUNI := hide huni
      obtain ⟨A1, n1, c1, hA1⟩ : ∃ A1 n1 c1, A1 = (if c = k then a else Option.map (fun x : Addr => x.add k) a) ∧ n1 = n - k ∧ c1 = c - k := ⟨_, _, _, rfl, rfl, rfl⟩
      have hin1 : n1 ≤ n := by omega
      have hsum : k + 1 + n1 = n + 1 := by omega
      have HSUM := hide hsum
      have HR1 := hide (show IsI wr A1 n1 (l.drop k) by rw [hA1.1, hA1.2.1]; exact (HI.out.below hb).drop k (by omega) hc)
      obtain ⟨X1, hX1⟩ : ∃ X1, X1 = (l.take k).map iv := ⟨_, rfl⟩
      obtain ⟨X3, hX3⟩ : ∃ X3, X3 = (l.drop k).map iv := ⟨_, rfl⟩
      have HX1 := hide hX1
      have HX3 := hide hX3
      have HR0 := hide (show Rd wr a X1 by rw [hX1, List.map_take]; exact (HI.out.below hb).2.take k)
      have HA1 := hide hA1
      have hl0 : (l.take k).length = k := by rw [List.length_take, ← HN.out]; omega
      have HL0 := hide (show X1.length = k by rw [hX1, List.length_map]; exact hl0)
      have ho1x : ∀ u ∈ X1, u.oneCell' = true := by rw [hX1]; exact one_iv _
      have ho3x : ∀ u ∈ X3, u.oneCell' = true := by rw [hX3]; exact one_iv _
      have hws : w.heap.size ≤ wr.heap.size := hb.size
      clear hA1 huni hsum hl0 hX1 hX3
      go_wp2_with fail
      have hstart : GN wr wr.heap.size (fun _ => false) wr.drew := ⟨⟨rfl, rfl, rfl, Nat.le_refl _, fun _ _ => rfl⟩, Nat.le_refl _⟩
      refine wp_region_F 12 (GN wr wr.heap.size) (EN wr.heap.size k) (by kernel_rfl) (by kernel_rfl) hstart (fun Q HQ => ?_)
      simp only [List.take_succ_cons, List.take_zero, List.map_cons, List.map_nil]
      apply wpF_c (v := .slice a n c) rfl
      focus
        intro L ev wx hG hL hM hx
        (try simp [Op.operands, Call.operands, opndS, Slot.holds] at hx)
        go_simp
        exact ⟨hG.same (Below.refl _ _), EN.of (Below.refl _ _) hG.2, rfl⟩
      dsimp only [setS, List.set]
      apply wpF_c (v := .int .i64 (k : Int)) rfl
      focus
        intro L ev wx hG hL hM hx
        (try simp [Op.operands, Call.operands, opndS, Slot.holds] at hx)
        go_simp
        exact ⟨hG.same (Below.refl _ _), EN.of (Below.refl _ _) hG.2, rfl⟩
      dsimp only [setS, List.set]
      apply wpF_c (v := .slice a k c) rfl
      focus
        intro L ev wx hG hL hM hx
        (try simp [Op.operands, Call.operands, opndS, Slot.holds] at hx)
        go_simp
        exact ⟨hG.same (Below.refl _ _), EN.of (Below.refl _ _) hG.2, rfl⟩
      dsimp only [setS, List.set]
      refine wpF_p (R := POk wr.heap.size k X1) rfl (stabPOk (fun j h1 h2 => NI_k k j (by omega))) ?_ ?_
      focus
        intro L ev wx hG hL hM hx
        (try simp [Op.operands, Call.operands, opndS, Slot.holds] at hx)
        have hrd : Rd wx a X1 := HR0.out.below hG.1
        obtain ⟨v', w', hrun, h2, h3, h4⟩ := append_rd_keep (P := Try.prog) wx wr.heap.size 22 22 3 i0 _ 8 Try.underlying22 hi0 hz0 hz1 hz2 rfl (.slice none 0 0) 0 [] (World.ownsRow_nil _ _ _ _) a k c X1 HL0.out hrd ho1x (by simp only [maxLen]; omega) (by omega) hG.2
        have hnil : k = 0 → v' = .slice none 0 0 := by
          intro hk0
          subst hk0
          obtain ⟨aa, haa⟩ : ∃ aa : Option Addr, aa = a := ⟨_, rfl⟩
          rw [← haa] at hrun
          clear haa
          rcases aa with _ | ad
          · rw [run_append_nothing wx wr.heap.size 22 22 3 i0 1 Try.underlying22 hi0 (.slice none 0 0) 0 [] (World.ownsRow_nil _ _ _ _) c] at hrun
            injection hrun with hrun _
            exact hrun.symm
          · obtain ⟨v2, w2, hrun2, _, _, hn2, _⟩ := run_append_own_at (P := Try.prog) wx wr.heap.size 22 22 3 i0 _ 1 8 Try.underlying22 hi0 hz0 hz1 hz2 rfl (by omega) (.slice none 0 0) 0 [] (World.ownsRow_nil _ _ _ _) ad 0 c [] rfl (fun j u h => by simp at h) (fun u h => by simp at h) (by simp only [maxLen]; omega) (by omega) hG.2
            rw [hrun2] at hrun
            injection hrun with hrun _
            rw [← hrun]
            exact hn2.2 ⟨rfl, rfl⟩
        have hbw : Below wx.heap.size wx w' := bl_grown (bl_refl wx) h3 (fun k hk => by simp [Value.ownBlock] at hk)
        unfold execOp
        simp only [resolve, invoke, builtin, Sem.run_bind, Sem.run_pure, Result.andThen_ok, List.map_toArray, List.map_cons, List.map_nil, hx, hrun]
        rw [Nat.zero_add, List.nil_append] at h2
        exact ⟨hG.same (hbw.mono hG.2), EN.of hbw hG.2, h2, hnil⟩
      dsimp only [setS, List.set]
      apply wpF_c (v := .int .i64 x) rfl
      focus
        intro L ev wx hG hL hM hx
        (try simp [Op.operands, Call.operands, opndS, Slot.holds] at hx)
        go_simp
        exact ⟨hG.same (Below.refl _ _), EN.of (Below.refl _ _) hG.2, rfl⟩
      dsimp only [setS, List.set]
      refine wpF_p (R := POi wr.heap.size 1 [iv x]) rfl (stabEN (fun j h1 h2 => NI_1 k j)) ?_ ?_
      focus
        intro L ev wx hG hL hM hx
        (try simp [Op.operands, Call.operands, opndS, Slot.holds] at hx)
        go_simp
        exact ⟨hG.same (bl_alloc (bl_refl wx) _ |>.mono hG.2), EN.of (bl_alloc (bl_refl wx) _) hG.2, rfl, .inr ⟨wx.heap.size, 1, #[.int .i64 x], rfl, hG.2, heap_alloc_new wx _, Nat.le_refl _, by decide, rfl, rfl⟩⟩
      dsimp only [setS, List.set]
      refine wpF_p (R := POi wr.heap.size (k + 1) (X1 ++ [iv x])) rfl (stabEN (fun j h1 h2 => NI_k1 k j (by omega) h1)) ?_ ?_
      focus
        intro L ev wx hG hL hM hx
        (try simp [Op.operands, Call.operands, opndS, Slot.holds] at hx)
        obtain ⟨⟨ho1, hn1⟩, ho2⟩ := hx
        obtain ⟨a2, c2, hv2, hc2, hm2, hi2⟩ := own_isI (l := [x]) (show wx.ownsRow _ _ _ _ _ ([x].map iv) from ho2) rfl
        obtain ⟨v', w', hrun, h2, h3, h4⟩ := append_rd_keep (P := Try.prog) wx wr.heap.size 22 22 3 i0 _ 8 Try.underlying22 hi0 hz0 hz1 hz2 rfl _ k _ ho1 a2 1 c2 [iv x] rfl hi2.2 (one_iv [x]) (by simp only [maxLen]; omega) (by omega) hG.2
        have hbw : Below wr.heap.size wx w' := bl_grown' h3 hG.2 (fun j hj => (ho1.lt j hj).1)
        unfold execOp
        simp only [resolve, invoke, builtin, Sem.run_bind, Sem.run_pure, Result.andThen_ok, List.map_toArray, List.map_cons, List.map_nil, hv2, hrun]
        refine ⟨hG.same hbw, ⟨hbw, fun u n xs hn hu => ?_⟩, h2⟩
        by_cases hk : k = 0
        · rw [hn1 hk] at h3
          exact own_below hu (bl_grown (bl_refl wx) h3 (fun k hk => by simp [Value.ownBlock] at hk))
        · exact h4 _ u n xs (by unfold NI at hn; simpa [hk] using hn) hu
      dsimp only [setS, List.set]
      apply wpF_c (v := .slice a n c) rfl
      focus
        intro L ev wx hG hL hM hx
        (try simp [Op.operands, Call.operands, opndS, Slot.holds] at hx)
        go_simp
        exact ⟨hG.same (Below.refl _ _), EN.of (Below.refl _ _) hG.2, rfl⟩
      dsimp only [setS, List.set]
      apply wpF_c (v := .int .i64 (k : Int)) rfl
      focus
        intro L ev wx hG hL hM hx
        (try simp [Op.operands, Call.operands, opndS, Slot.holds] at hx)
        go_simp
        exact ⟨hG.same (Below.refl _ _), EN.of (Below.refl _ _) hG.2, rfl⟩
      dsimp only [setS, List.set]
      apply wpF_c (v := .slice A1 n1 c1) rfl
      focus
        intro L ev wx hG hL hM hx
        (try simp [Op.operands, Call.operands, opndS, Slot.holds] at hx)
        go_simp
        exact ⟨hG.same (Below.refl _ _), EN.of (Below.refl _ _) hG.2, by rw [HA1.out.1, HA1.out.2.1, HA1.out.2.2]; first | rfl | simp [Slot.holds, Addr.add_lit]⟩
      dsimp only [setS, List.set]
      refine wpF_p (R := POi wr.heap.size (k + 1 + n1) (X1 ++ [iv x] ++ X3)) rfl (stabEN (fun j h1 h2 => Nat.le_trans (by omega) (NI_big k j (fun e => by subst e; exact absurd (h2.symm.trans (by kernel_rfl) : false = true) (by decide)) h1))) ?_ ?_
      focus
        intro L ev wx hG hL hM hx
        (try simp [Op.operands, Call.operands, opndS, Slot.holds] at hx)
        obtain ⟨v', w', hrun, h2, h3, h4⟩ := append_rd_keep (P := Try.prog) wx wr.heap.size 22 22 3 i0 _ 8 Try.underlying22 hi0 hz0 hz1 hz2 rfl _ (k + 1) _ hx.1 A1 n1 c1 X3 (by rw [HX3.out, List.length_map]; exact HR1.out.1.symm) (by rw [HX3.out]; exact HR1.out.2.below hG.1) ho3x (by simp only [maxLen]; omega) (by omega) hG.2
        have hbw : Below wr.heap.size wx w' := bl_grown' h3 hG.2 (fun j hj => (hx.1.lt j hj).1)
        unfold execOp
        simp only [resolve, invoke, builtin, Sem.run_bind, Sem.run_pure, Result.andThen_ok, List.map_toArray, List.map_cons, List.map_nil, hx.2, hrun]
        exact ⟨hG.same hbw, ⟨hbw, fun u n xs hn hu => h4 _ u n xs (by simpa [NI] using hn) hu⟩, h2⟩
      dsimp only [setS, List.set]
      refine wpF_p (R := POi wr.heap.size (k + 1 + n1) (X1 ++ [iv x] ++ X3)) rfl (stabEN (fun j h1 h2 => Nat.le_trans (by omega) (NI_big k j (fun e => by subst e; exact absurd (h2.symm.trans (by kernel_rfl) : false = true) (by decide)) (fun e => by subst e; exact absurd (h2.symm.trans (by kernel_rfl) : false = true) (by decide))))) ?_ ?_
      focus
        intro L ev wx hG hL hM hx
        (try simp [Op.operands, Call.operands, opndS, Slot.holds] at hx)
        go_simp
        exact ⟨hG.same (Below.refl _ _), EN.of (Below.refl _ _) hG.2, hx⟩
      dsimp only [setS, List.set]
      refine wpF_nil (HQ _ fun w6 hG6 => ?_)
      simp only [closeS, List.drop_succ_cons, List.drop_zero, List.drop_nil]
      clear HQ hstart
      rintro v4 hown4 v36 - v38 - v39 - v43 -
      have HO4 := hide (show w6.ownsRow base 3 1 v4 (uni l [x]).length ((uni l [x]).map iv) by
        rw [HUNI.out, List.map_append, List.map_append, ← HX1.out, ← HX3.out, List.length_append, List.length_append, List.length_take, List.length_drop, ← HN.out, Nat.min_eq_left hk, ← HA1.out.2.1]
        exact own_base hown4 (Nat.le_trans hbase hb.size))
      have hb6 := hb.trans (hG6.1.mono hws)
      clear hG6 hown4
      go_wp2
      go_ret
      exact ⟨v4, rfl, HO4.out, hb6⟩
    · obtain ⟨j, hj⟩ : ∃ j, k = j + 1 := ⟨k - 1, by omega⟩
      obtain ⟨b, o, y, rfl, hbl, hy, e0⟩ := (HI.out.below hb).at_ (k := j) (by omega)
      have hkk : (k : Int) - 1 = (j : Int) := by omega
      have HY := hide hy
      have hkn' : (j : Int) < (n : Int) := by omega
      have hk0' : (0 : Int) < (k : Int) := by omega
      have hdrop : l.drop j = y :: l.drop k := by rw [hj]; exact dropl_at HY.out
      by_cases h1 : x < y
      · have HG2 : Hid (∀ z ∈ l.drop j, x < z) := hide (by
          rw [hdrop]; intro z hz
          rcases List.mem_cons.1 hz with rfl | hz
          · exact h1
          · exact HGT.out z hz)
        clear hy hdrop
        go_wp2
        go_roundw
        case rel => exact ⟨j, by go_num, by omega, HG2, hb⟩
        case measure => simp [intOf]; omega
      · by_cases h2 : y = x
        · subst h2
          have hu := ins_mem HASC.out (List.mem_of_getElem? HY.out)
          have HU := hide hu
          clear hu hy hdrop
          go_wp2
          go_ret
          exact ⟨_, rfl, by rw [HU.out]; exact own_below HOWN.out hb, hb⟩
        · have h2' : (y == x) = false := by simpa using h2
          have HLT : Hid (∀ z ∈ l.take k, z < x) := hide (by
            rw [hj, take_snoc' l j y HY.out]
            have ha := HASC.out
            rw [← List.take_append_drop j l, hdrop, asc_app] at ha
            intro z hz
            rcases List.mem_append.1 hz with hz | hz
            · have := ha.2.2 z hz y (by simp); omega
            · simp at hz; omega)
          clear hy hdrop hj hk0
          have h1n : k ≤ c := by omega
          have hkc : (k : Int) ≤ (c : Int) := by omega
          have hkn : (k : Int) ≤ (n : Int) := by omega
          have huni := ins_mid HASC.out HLT.out HGT.out
          have HUNI := hide huni
          obtain ⟨A1, n1, c1, hA1⟩ : ∃ A1 n1 c1, A1 = (if c = k then (some ⟨b, o, none⟩) else Option.map (fun x : Addr => x.add k) (some ⟨b, o, none⟩)) ∧ n1 = n - k ∧ c1 = c - k := ⟨_, _, _, rfl, rfl, rfl⟩
          have hin1 : n1 ≤ n := by omega
          have hsum : k + 1 + n1 = n + 1 := by omega
          have HSUM := hide hsum
          have HR1 := hide (show IsI wr A1 n1 (l.drop k) by rw [hA1.1, hA1.2.1]; exact (HI.out.below hb).drop k (by omega) hc)
          obtain ⟨X1, hX1⟩ : ∃ X1, X1 = (l.take k).map iv := ⟨_, rfl⟩
          obtain ⟨X3, hX3⟩ : ∃ X3, X3 = (l.drop k).map iv := ⟨_, rfl⟩
          have HX1 := hide hX1
          have HX3 := hide hX3
          have HR0 := hide (show Rd wr (some ⟨b, o, none⟩) X1 by rw [hX1, List.map_take]; exact (HI.out.below hb).2.take k)
          have HA1 := hide hA1
          have hl0 : (l.take k).length = k := by rw [List.length_take, ← HN.out]; omega
          have HL0 := hide (show X1.length = k by rw [hX1, List.length_map]; exact hl0)
          have ho1x : ∀ u ∈ X1, u.oneCell' = true := by rw [hX1]; exact one_iv _
          have ho3x : ∀ u ∈ X3, u.oneCell' = true := by rw [hX3]; exact one_iv _
          have hws : w.heap.size ≤ wr.heap.size := hb.size
          clear hA1 huni hsum hl0 hX1 hX3
          go_wp2_with fail
          have hstart : GN wr wr.heap.size (fun _ => false) wr.drew := ⟨⟨rfl, rfl, rfl, Nat.le_refl _, fun _ _ => rfl⟩, Nat.le_refl _⟩
          refine wp_region_F 12 (GN wr wr.heap.size) (EN wr.heap.size k) (by kernel_rfl) (by kernel_rfl) hstart (fun Q HQ => ?_)
          simp only [List.take_succ_cons, List.take_zero, List.map_cons, List.map_nil]
          apply wpF_c (v := .slice (some ⟨b, o, none⟩) n c) rfl
          focus
            intro L ev wx hG hL hM hx
            (try simp [Op.operands, Call.operands, opndS, Slot.holds] at hx)
            go_simp
            exact ⟨hG.same (Below.refl _ _), EN.of (Below.refl _ _) hG.2, rfl⟩
          dsimp only [setS, List.set]
          apply wpF_c (v := .int .i64 (k : Int)) rfl
          focus
            intro L ev wx hG hL hM hx
            (try simp [Op.operands, Call.operands, opndS, Slot.holds] at hx)
            go_simp
            exact ⟨hG.same (Below.refl _ _), EN.of (Below.refl _ _) hG.2, rfl⟩
          dsimp only [setS, List.set]
          apply wpF_c (v := .slice (some ⟨b, o, none⟩) k c) rfl
          focus
            intro L ev wx hG hL hM hx
            (try simp [Op.operands, Call.operands, opndS, Slot.holds] at hx)
            go_simp
            exact ⟨hG.same (Below.refl _ _), EN.of (Below.refl _ _) hG.2, rfl⟩
          dsimp only [setS, List.set]
          refine wpF_p (R := POk wr.heap.size k X1) rfl (stabPOk (fun j h1 h2 => NI_k k j (by omega))) ?_ ?_
          focus
            intro L ev wx hG hL hM hx
            (try simp [Op.operands, Call.operands, opndS, Slot.holds] at hx)
            have hrd : Rd wx (some ⟨b, o, none⟩) X1 := HR0.out.below hG.1
            obtain ⟨v', w', hrun, h2, h3, h4⟩ := append_rd_keep (P := Try.prog) wx wr.heap.size 22 22 3 i0 _ 8 Try.underlying22 hi0 hz0 hz1 hz2 rfl (.slice none 0 0) 0 [] (World.ownsRow_nil _ _ _ _) (some ⟨b, o, none⟩) k c X1 HL0.out hrd ho1x (by simp only [maxLen]; omega) (by omega) hG.2
            have hnil : k = 0 → v' = .slice none 0 0 := by
              intro hk0
              subst hk0
              obtain ⟨aa, haa⟩ : ∃ aa : Option Addr, aa = (some ⟨b, o, none⟩) := ⟨_, rfl⟩
              rw [← haa] at hrun
              clear haa
              rcases aa with _ | ad
              · rw [run_append_nothing wx wr.heap.size 22 22 3 i0 1 Try.underlying22 hi0 (.slice none 0 0) 0 [] (World.ownsRow_nil _ _ _ _) c] at hrun
                injection hrun with hrun _
                exact hrun.symm
              · obtain ⟨v2, w2, hrun2, _, _, hn2, _⟩ := run_append_own_at (P := Try.prog) wx wr.heap.size 22 22 3 i0 _ 1 8 Try.underlying22 hi0 hz0 hz1 hz2 rfl (by omega) (.slice none 0 0) 0 [] (World.ownsRow_nil _ _ _ _) ad 0 c [] rfl (fun j u h => by simp at h) (fun u h => by simp at h) (by simp only [maxLen]; omega) (by omega) hG.2
                rw [hrun2] at hrun
                injection hrun with hrun _
                rw [← hrun]
                exact hn2.2 ⟨rfl, rfl⟩
            have hbw : Below wx.heap.size wx w' := bl_grown (bl_refl wx) h3 (fun k hk => by simp [Value.ownBlock] at hk)
            unfold execOp
            simp only [resolve, invoke, builtin, Sem.run_bind, Sem.run_pure, Result.andThen_ok, List.map_toArray, List.map_cons, List.map_nil, hx, hrun]
            rw [Nat.zero_add, List.nil_append] at h2
            exact ⟨hG.same (hbw.mono hG.2), EN.of hbw hG.2, h2, hnil⟩
          dsimp only [setS, List.set]
          apply wpF_c (v := .int .i64 x) rfl
          focus
            intro L ev wx hG hL hM hx
            (try simp [Op.operands, Call.operands, opndS, Slot.holds] at hx)
            go_simp
            exact ⟨hG.same (Below.refl _ _), EN.of (Below.refl _ _) hG.2, rfl⟩
          dsimp only [setS, List.set]
          refine wpF_p (R := POi wr.heap.size 1 [iv x]) rfl (stabEN (fun j h1 h2 => NI_1 k j)) ?_ ?_
          focus
            intro L ev wx hG hL hM hx
            (try simp [Op.operands, Call.operands, opndS, Slot.holds] at hx)
            go_simp
            exact ⟨hG.same (bl_alloc (bl_refl wx) _ |>.mono hG.2), EN.of (bl_alloc (bl_refl wx) _) hG.2, rfl, .inr ⟨wx.heap.size, 1, #[.int .i64 x], rfl, hG.2, heap_alloc_new wx _, Nat.le_refl _, by decide, rfl, rfl⟩⟩
          dsimp only [setS, List.set]
          refine wpF_p (R := POi wr.heap.size (k + 1) (X1 ++ [iv x])) rfl (stabEN (fun j h1 h2 => NI_k1 k j (by omega) h1)) ?_ ?_
          focus
            intro L ev wx hG hL hM hx
            (try simp [Op.operands, Call.operands, opndS, Slot.holds] at hx)
            obtain ⟨⟨ho1, hn1⟩, ho2⟩ := hx
            obtain ⟨a2, c2, hv2, hc2, hm2, hi2⟩ := own_isI (l := [x]) (show wx.ownsRow _ _ _ _ _ ([x].map iv) from ho2) rfl
            obtain ⟨v', w', hrun, h2, h3, h4⟩ := append_rd_keep (P := Try.prog) wx wr.heap.size 22 22 3 i0 _ 8 Try.underlying22 hi0 hz0 hz1 hz2 rfl _ k _ ho1 a2 1 c2 [iv x] rfl hi2.2 (one_iv [x]) (by simp only [maxLen]; omega) (by omega) hG.2
            have hbw : Below wr.heap.size wx w' := bl_grown' h3 hG.2 (fun j hj => (ho1.lt j hj).1)
            unfold execOp
            simp only [resolve, invoke, builtin, Sem.run_bind, Sem.run_pure, Result.andThen_ok, List.map_toArray, List.map_cons, List.map_nil, hv2, hrun]
            refine ⟨hG.same hbw, ⟨hbw, fun u n xs hn hu => ?_⟩, h2⟩
            by_cases hk : k = 0
            · rw [hn1 hk] at h3
              exact own_below hu (bl_grown (bl_refl wx) h3 (fun k hk => by simp [Value.ownBlock] at hk))
            · exact h4 _ u n xs (by unfold NI at hn; simpa [hk] using hn) hu
          dsimp only [setS, List.set]
          apply wpF_c (v := .slice (some ⟨b, o, none⟩) n c) rfl
          focus
            intro L ev wx hG hL hM hx
            (try simp [Op.operands, Call.operands, opndS, Slot.holds] at hx)
            go_simp
            exact ⟨hG.same (Below.refl _ _), EN.of (Below.refl _ _) hG.2, rfl⟩
          dsimp only [setS, List.set]
          apply wpF_c (v := .int .i64 (k : Int)) rfl
          focus
            intro L ev wx hG hL hM hx
            (try simp [Op.operands, Call.operands, opndS, Slot.holds] at hx)
            go_simp
            exact ⟨hG.same (Below.refl _ _), EN.of (Below.refl _ _) hG.2, rfl⟩
          dsimp only [setS, List.set]
          apply wpF_c (v := .slice A1 n1 c1) rfl
          focus
            intro L ev wx hG hL hM hx
            (try simp [Op.operands, Call.operands, opndS, Slot.holds] at hx)
            go_simp
            exact ⟨hG.same (Below.refl _ _), EN.of (Below.refl _ _) hG.2, by rw [HA1.out.1, HA1.out.2.1, HA1.out.2.2]; first | rfl | simp [Slot.holds, Addr.add_lit]⟩
          dsimp only [setS, List.set]
          refine wpF_p (R := POi wr.heap.size (k + 1 + n1) (X1 ++ [iv x] ++ X3)) rfl (stabEN (fun j h1 h2 => Nat.le_trans (by omega) (NI_big k j (fun e => by subst e; exact absurd (h2.symm.trans (by kernel_rfl) : false = true) (by decide)) h1))) ?_ ?_
          focus
            intro L ev wx hG hL hM hx
            (try simp [Op.operands, Call.operands, opndS, Slot.holds] at hx)
            obtain ⟨v', w', hrun, h2, h3, h4⟩ := append_rd_keep (P := Try.prog) wx wr.heap.size 22 22 3 i0 _ 8 Try.underlying22 hi0 hz0 hz1 hz2 rfl _ (k + 1) _ hx.1 A1 n1 c1 X3 (by rw [HX3.out, List.length_map]; exact HR1.out.1.symm) (by rw [HX3.out]; exact HR1.out.2.below hG.1) ho3x (by simp only [maxLen]; omega) (by omega) hG.2
            have hbw : Below wr.heap.size wx w' := bl_grown' h3 hG.2 (fun j hj => (hx.1.lt j hj).1)
            unfold execOp
            simp only [resolve, invoke, builtin, Sem.run_bind, Sem.run_pure, Result.andThen_ok, List.map_toArray, List.map_cons, List.map_nil, hx.2, hrun]
            exact ⟨hG.same hbw, ⟨hbw, fun u n xs hn hu => h4 _ u n xs (by simpa [NI] using hn) hu⟩, h2⟩
          dsimp only [setS, List.set]
          refine wpF_p (R := POi wr.heap.size (k + 1 + n1) (X1 ++ [iv x] ++ X3)) rfl (stabEN (fun j h1 h2 => Nat.le_trans (by omega) (NI_big k j (fun e => by subst e; exact absurd (h2.symm.trans (by kernel_rfl) : false = true) (by decide)) (fun e => by subst e; exact absurd (h2.symm.trans (by kernel_rfl) : false = true) (by decide))))) ?_ ?_
          focus
            intro L ev wx hG hL hM hx
            (try simp [Op.operands, Call.operands, opndS, Slot.holds] at hx)
            go_simp
            exact ⟨hG.same (Below.refl _ _), EN.of (Below.refl _ _) hG.2, hx⟩
          dsimp only [setS, List.set]
          refine wpF_nil (HQ _ fun w6 hG6 => ?_)
          simp only [closeS, List.drop_succ_cons, List.drop_zero, List.drop_nil]
          clear HQ hstart
          rintro v4 hown4 v36 - v38 - v39 - v43 -
          have HO4 := hide (show w6.ownsRow base 3 1 v4 (uni l [x]).length ((uni l [x]).map iv) by
            rw [HUNI.out, List.map_append, List.map_append, ← HX1.out, ← HX3.out, List.length_append, List.length_append, List.length_take, List.length_drop, ← HN.out, Nat.min_eq_left hk, ← HA1.out.2.1]
            exact own_base hown4 (Nat.le_trans hbase hb.size))
          have hb6 := hb.trans (hG6.1.mono hws)
          clear hG6 hown4
          go_wp2
          go_ret
          exact ⟨v4, rfl, HO4.out, hb6⟩
/-! The reference's Merge. -/
set_option maxHeartbeats 2000000 in
set_option maxRecDepth 100000 in
theorem rmerge_any (a : Option Addr) (n cap : Nat) (ls : List (List Int)) (w : World) (h : IsLL w a n ls) (hn : n ≤ 500) (hlen : ∀ l ∈ ls, l.length ≤ 100) :
    Calls Try.prog 18 #[.slice a n cap] w fun e w' => LRes w.heap.size (mergeM ls) e w' ∧ Below w.heap.size w w' := by
  have HI := hide h
  have HN := hide h.1
  have HLEN := hide hlen
  clear h hlen
  go_enter Try.func18, Try.ntmps18
  go_wp2_with fail
  refine (rall_any a n cap ls w HI.out (by omega)).mono ?_
  rintro e w1 ⟨rfl, hb1⟩
  by_cases hz : chkA ls = 0
  case neg =>
    have hm : mergeM ls = ([], chkA ls) := by unfold mergeM; rw [if_neg hz]
    obtain ⟨q, hq⟩ : ∃ q, q = chkA ls := ⟨_, rfl⟩
    rw [← hq] at hm hz ⊢
    have hqz : ((q : Int) != 0) = true := by rw [bne_iff_ne]; omega
    have HM := hide hm
    clear hm hz hq
    go_wp2
    go_ret2
    exact ⟨⟨_, by rw [HM.out]; rfl, by rw [HM.out]; exact World.ownsRow_nil _ _ _ _⟩, hb1⟩
  rw [hz]
  have hall := (chkA_zero ls).1 hz
  have hm : mergeM ls = if 4096 < (ls.foldl uni []).length then ([], 2) else (ls.foldl uni [], 0) := by unfold mergeM; rw [if_pos hz, mrg_eq _ _ (by simp)]
  have HM := hide hm
  have HALL := hide (show ∀ l ∈ ls, asc l from fun l hl => ((chkL_zero l).1 (hall l hl)).2.2)
  clear hz hm hall
  go_wp2_with fail
  go_loopw [5, 17] (fun v5 i wr => ∃ (k : Nat), i = .int .i64 (k : Int) ∧ k ≤ n ∧ Hid (wr.ownsRow w.heap.size 3 1 v5 ((ls.take k).foldl uni []).length (((ls.take k).foldl uni []).map iv)) ∧ Below w.heap.size w wr) (fun _ i _ => n - (intOf i).toNat)
  case atStart => exact ⟨0, rfl, Nat.zero_le _, hide (by simpa using World.ownsRow_nil _ _ _ _), hb1⟩
  case round =>
    obtain ⟨k, rfl, hk, HO, hb⟩ := hrel
    by_cases hlt : k < n
    · obtain ⟨b, o, l, a', c, rfl, hbl, hx, e0, hlc, hcm, hi⟩ := (HI.out.below hb).at_ hlt
      obtain ⟨wo, hwo⟩ : ∃ wo, wo = wr := ⟨_, rfl⟩
      subst hwo
      have hkn : (k : Int) < (n : Int) := by omega
      have hll : l.length ≤ 100 := HLEN.out l (List.mem_of_getElem? hx)
      have hla : asc l := HALL.out l (List.mem_of_getElem? hx)
      have hst : (ls.take (k + 1)).foldl uni [] = uni ((ls.take k).foldl uni []) l := by rw [take_snoc' ls k l hx, List.foldl_append]; rfl
      have hasc : asc ((ls.take k).foldl uni []) := asc_folduni _ _ asc_nil fun y hy => HALL.out y (List.mem_of_mem_take hy)
      have hol : ((ls.take k).foldl uni []).length ≤ 50000 := by
        have h1 := folduni_len (ls.take k) [] 100 fun y hy => HLEN.out y (List.mem_of_mem_take hy)
        rw [List.length_take] at h1
        simp only [List.length_nil] at h1
        omega
      obtain ⟨r, hr⟩ : ∃ r, r = (ls.take k).foldl uni [] := ⟨_, rfl⟩
      rw [← hr] at hst hasc hol HO
      have HST := hide hst
      have HASC := hide hasc
      have HL := hide hi
      have HLA := hide hla
      obtain ⟨m, hm⟩ : ∃ m, m = l.length := ⟨_, rfl⟩
      rw [← hm] at e0 hlc hll
      have HM' := hide hm
      clear hx hst hi hlt hm hla hasc hr
      go_wp2_with fail
      go_loopw [5, 23] (fun v5 i wi => ∃ (j : Nat) (out : List Int), i = .int .i64 (j : Int) ∧ j ≤ m ∧ Hid (out = (l.take j).foldl (fun r x => uni r [x]) r) ∧ Hid (asc out) ∧ out.length ≤ 50000 + j ∧ Hid (wi.ownsRow w.heap.size 3 1 v5 out.length (out.map iv)) ∧ Below wo.heap.size wo wi) (fun _ i _ => m - (intOf i).toNat)
      case atStart => exact ⟨0, r, rfl, Nat.zero_le _, hide (by simp), HASC, by omega, HO, bl_refl wo⟩
      case round =>
        obtain ⟨j, out, rfl, hj, HOUT, HAO, holj, HOO, hbi⟩ := hrel
        by_cases hlj : j < m
        · obtain ⟨b3, o3, y, rfl, hbl3, hy, e3⟩ := (HL.out.below hbi).at_ (show j < l.length by rw [← HM'.out]; exact hlj)
          have hjm : (j : Int) < (m : Int) := by omega
          have HY := hide hy
          obtain ⟨a5, c5, rfl, hc5, hm5, hi5⟩ := own_isI HOO.out rfl
          have HI5 := hide hi5
          have hws : w.heap.size ≤ wr.heap.size := Nat.le_trans hb.size hbi.size
          clear hy hlj hi5
          go_wp2_with fail
          refine (insert_any a5 out.length c5 out y w.heap.size wr HOO.out HI5.out hc5 hm5 (by omega) HAO.out hws).mono ?_
          rintro e w2 ⟨v, rfl, hown, hb2⟩
          have HOW := hide hown
          have hb02 := hbi.trans (hb2.mono hbi.size)
          have hle := uni_len out [y]
          simp only [List.length_cons, List.length_nil] at hle
          clear hown
          go_wp2
          go_roundw
          case rel => exact ⟨j + 1, uni out [y], by go_num, by omega, hide (by rw [take_snoc' l j y HY.out, List.foldl_append, HOUT.out]; rfl), hide (asc_uni _ _ HAO.out (asc_one y)), by omega, HOW, hb02⟩
          case measure => simp [intOf]; omega
        · obtain rfl : j = m := by omega
          have hfull : out = (ls.take (k + 1)).foldl uni [] := by
            rw [HST.out, HOUT.out, List.take_of_length_le (by rw [← HM'.out]; exact Nat.le_refl _), fold_ins_eq HASC.out HLA.out]
          have HO2 := hide (show wr.ownsRow w.heap.size 3 1 u5 ((ls.take (k + 1)).foldl uni []).length (((ls.take (k + 1)).foldl uni []).map iv) by rw [← hfull]; exact HOO.out)
          have hb02 : Below w.heap.size w wr := hb.trans (hbi.mono hb.size)
          clear hfull hlj
          go_wp2
          go_roundw
          case rel => exact ⟨k + 1, by go_num, by omega, HO2, hb02⟩
          case measure => simp [intOf]; omega
    · obtain rfl : k = n := by omega
      have hfull : ls.take k = ls := List.take_of_length_le (by rw [← HN.out]; exact Nat.le_refl _)
      have ho := HO.out
      rw [hfull] at ho
      obtain ⟨r, hr⟩ : ∃ r, r = ls.foldl uni [] := ⟨_, rfl⟩
      have hm := HM.out
      rw [← hr] at ho hm
      obtain ⟨q, hq⟩ : ∃ q, q = r.length := ⟨_, rfl⟩
      rw [← hq] at ho hm
      obtain ⟨a5, c5, rfl, hc5, _, _⟩ := own_isI ho hq
      have HO2 := hide ho
      have HQ := hide hq
      clear hfull ho hr hq
      by_cases h4 : 4096 < q
      · have h4' : (4096 : Int) < (q : Int) := by omega
        rw [if_pos h4] at hm
        have HR := hide hm
        clear hm h4
        go_wp2
        go_ret2
        exact ⟨⟨_, by rw [HR.out]; rfl, by rw [HR.out]; exact World.ownsRow_nil _ _ _ _⟩, hb⟩
      · have h4' : ¬ (4096 : Int) < (q : Int) := by omega
        rw [if_neg h4] at hm
        have HR := hide hm
        clear hm h4
        go_wp2
        go_ret2
        exact ⟨⟨_, by rw [HR.out]; rfl, by rw [HR.out]; show wr.ownsRow _ _ _ _ r.length _; rw [← HQ.out]; exact HO2.out⟩, hb⟩
end Go.Proofs.Ytjiijhbkbmnhbaa
