/- The walk of Build. -/
import Derived.Test.YtbicpnhgokngeaaQM
import Derived.Test.YtbicpnhgokngeaaLPhrW
import Derived.Test.YtbicpnhgokngeaaNewRW
import Derived.Test.YtbicpnhgokngeaaWrW
import Derived.Test.YtbicpnhgokngeaaRegF
namespace Go.Proofs.Ytbicpnhgokngeaa
open Go.RowKit
set_option linter.unusedVariables false
set_option linter.unusedSimpArgs false
def nv (x : Nat) : Value := .int .i64 (x : Int)
theorem i64_eq {a b : Int} (h : a = b) : Value.int .i64 a = Value.int .i64 b := by rw [h]
theorem own_two {w : World} {base base' size size' : Nat} {e e' : TypeId} {v v' : Value} {n n' : Nat} {xs xs' : List Value} (h : w.ownsRow base e size v n xs) (h' : w.ownsRow base' e' size' v' n' xs') (hne : e ≠ e') (k : Nat) (hk : v.ownBlock = some k) : v'.ownBlock ≠ some k := by
  intro hk'
  rcases h.2 with ⟨rfl, _⟩ | ⟨g, cap, cur, rfl, _, h3, _⟩
  · simp [Value.ownBlock] at hk
  · rcases h'.2 with ⟨rfl, _⟩ | ⟨g', cap', cur', rfl, _, h3', _⟩
    · simp [Value.ownBlock] at hk'
    · simp [Value.ownBlock] at hk hk'
      subst hk
      subst hk'
      rw [h3] at h3'
      simp at h3'
      exact hne h3'.2
theorem WrS.apart {w : World} {base g b size n : Nat} {r : Option Nat} {l : List Bool} {e : TypeId} {v : Value} {xs : List Value} (h : WrS w base g r l) (ho : w.ownsRow b e size v n xs) (he : e ≠ 5) (hw : e ≠ 58) : (∀ k, v.ownBlock = some k → some k ≠ r) ∧ v.ownBlock ≠ some g := by
  obtain ⟨u, h1, _, h2, rfl⟩ := h
  refine ⟨fun k hk e => own_two ho h2 he k hk e.symm, fun hk => ?_⟩
  rcases ho.2 with ⟨rfl, _⟩ | ⟨g', cap, cur, rfl, _, h3, _⟩
  · simp [Value.ownBlock] at hk
  · simp [Value.ownBlock] at hk
    subst hk
    rw [h1] at h3
    simp at h3
    exact hw h3.2.symm
theorem ownG_blocks {w w' : World} {base size : Nat} {e : TypeId} {v : Value} {n : Nat} {xs : List Value} (h : w.ownsRow base e size v n xs) (hb : ∀ k, v.ownBlock = some k → w'.heap[k]? = w.heap[k]?) : w'.ownsRow base e size v n xs := by
  refine ⟨h.1, ?_⟩
  rcases h.2 with h | ⟨g', cap, cur, rfl, h2, h3, h4⟩
  · exact .inl h
  · exact .inr ⟨g', cap, cur, rfl, h2, (hb g' rfl).trans h3, h4⟩
theorem ownG_form {w : World} {base size : Nat} {e : TypeId} {v : Value} {n : Nat} {xs : List Value} (h : w.ownsRow base e size v n xs) : ∃ a c, v = .slice a n c ∧ n ≤ c ∧ Rd w a xs := by
  rcases h.2 with ⟨rfl, rfl⟩ | ⟨g, cap, cur, rfl, hb, hg, hn, _, _, ht⟩
  · refine ⟨none, 0, rfl, Nat.le_refl _, ?_⟩
    have := h.1
    rw [Nat.zero_mul] at this
    exact .inl (List.eq_nil_of_length_eq_zero this)
  · refine ⟨_, cap, rfl, hn, .inr ⟨g, 0, rfl, (Array.getElem?_eq_some_iff.1 hg).1, fun k v hk => ?_⟩⟩
    have := h.cells (g := g) rfl k v hk
    rwa [Addr.add_lit] at this
def skC (s : Nat × Nat) : List Value := [nv s.1, nv s.2]
/-- The positions of the input as natural numbers. -/
def natsOf (l : List Int) : List Nat := l.map Int.toNat
/-- A list in memory. -/
def LstS (w : World) (g : Nat) (l : List Nat) : Prop :=
  ∃ A m c B k d, w.heap[g]? = some (.cells #[nv l.length, nv (posQ l l.length), .slice A m c, .slice B k d] 39 (0, 0)) ∧ m = (packL (upQ l l.length)).length ∧ m ≤ c ∧ BRd w A (packL (upQ l l.length)) ∧ k = (skQ l l.length).length ∧ k ≤ d ∧ Rd w B ((skQ l l.length).flatMap skC)
theorem info_skip : (Try.prog.info? 44).map (fun i => (i.zero, i.size, i.bytes)) = some (some (.agg #[.int .i64 0, .int .i64 0]), 2, 16) := by kernel_rfl
/-! The region that appends an entry of the skip table. -/
theorem below_grow {w w' : World} (hb : Below w.heap.size w w') : w.grownBy w' none := ⟨hb.os, hb.tape, hb.output, hb.size, fun k hk _ => hb.block k hk⟩
theorem gb_below {w w1 w2 : World} {r : Option Nat} (h : w.grownBy w1 r) (hb : Below w1.heap.size w1 w2) : w.grownBy w2 r := h.trans (World.grownBy.but (below_grow hb) r)
def GQ (W : World) (base : Nat) (s : Value) (n : Nat) (xs : List Value) : (Nat → Bool) → World → Prop := fun L w => W.grownBy w s.ownBlock ∧ (L 10 = false → w.ownsRow base 44 2 s n xs)
def EQ (r : Option Nat) : Nat → World → World → Prop := fun j w w' => w.grownBy w' r ∧ (j ≠ 10 → Below w.heap.size w w')
def PBq (base : Nat) (x y : Int) : Value → World → Prop := fun v w => ∃ gb, v = .slice (some ⟨gb, 0, none⟩) 1 1 ∧ base ≤ gb ∧ w.heap[gb]? = some (.cells #[.int .i64 x, .int .i64 y] 44 (0, 0))
def POq (base n : Nat) (xs : List Value) : Value → World → Prop := fun v w => w.ownsRow base 44 2 v n xs
theorem GQ.same {W : World} {base n : Nat} {s : Value} {xs : List Value} {L : Nat → Bool} {w w' : World} {i : Nat} (h : GQ W base s n xs L w) (hb : Below w.heap.size w w') (hi : i ≠ 10) : GQ W base s n xs (upL L i) w' := by
  refine ⟨gb_below h.1 hb, fun hL => ?_⟩
  have h3 : L 10 = false := by
    unfold upL at hL
    rwa [if_neg (fun e => hi e.symm)] at hL
  exact (h.2 h3).kept (row := none) (below_grow hb) (by cases s.ownBlock <;> simp)
theorem EQ.of {r : Option Nat} {j : Nat} {w w' : World} (hb : Below w.heap.size w w') : EQ r j w w' := ⟨World.grownBy.but (below_grow hb) r, fun _ => hb⟩
theorem stabPBq {m : List Nat} {r : Option Nat} {base i : Nat} {x y : Int} (hr : ∀ j, r = some j → j < base) : StabF m (EQ r) i (.p (PBq base x y)) := fun _ _ _ u w w' hE ⟨gb, h1, h2, h3⟩ =>
  ⟨gb, h1, h2, (hE.1.block gb (Array.getElem?_eq_some_iff.1 h3).1 (fun e => by have := hr gb e.symm; omega)).trans h3⟩
theorem stabPOq {m : List Nat} {r : Option Nat} {base n i : Nat} {xs : List Value} (hi : i = 10 ∨ (m.getD i 0).testBit 10 = true) : StabF m (EQ r) i (.p (POq base n xs)) := fun j hj hm u w w' hE h => by
  have h3 : j ≠ 10 := by
    rintro rfl
    rcases hi with rfl | hi
    · exact hj rfl
    · rw [hi] at hm; cases hm
  have hb := hE.2 h3
  show w'.ownsRow _ _ _ _ _ _
  exact World.ownsRow.kept (show w.ownsRow _ _ _ _ _ _ from h) (row := none) (below_grow hb) (by cases u.ownBlock <;> simp)
set_option maxHeartbeats 4000000 in
set_option maxRecDepth 100000 in
theorem build_any (a : Option Addr) (n cap : Nat) (z : List Int) (w : World) (h : IsI w a n z) (hz : ∀ x ∈ z, (Lit.int .i64 x).wf = true) :
    Calls Try.prog 6 #[.slice a n cap] w fun e w' => (chkL z ≠ 0 → e = .returned (.tuple #[.pointer none, .int .i64 ((chkL z : Nat) : Int)])) ∧ (chkL z = 0 → ∃ g, e = .returned (.tuple #[.pointer (some ⟨g, 0, none⟩), .int .i64 0]) ∧ w.heap.size ≤ g ∧ LstS w' g (natsOf z)) ∧ Below w.heap.size w w' := by
  have HI := hide h
  have HN := hide h.1
  clear h hz
  by_cases h4 : 4096 < n
  · have h4' : (4096 : Int) < (n : Int) := by omega
    have hr : chkL z = 2 := by unfold chkL; rw [if_pos (by rw [← HN.out]; exact h4)]
    have HR := hide hr
    clear hr h4
    go_enter Try.func6, Try.ntmps6
    go_wp2
    go_ret2
    rw [HR.out]
    exact ⟨fun _ => rfl, fun h => absurd h (by decide), bl_refl w⟩
  have hr : chkL z = chkS none z := by unfold chkL; rw [if_neg (by rw [← HN.out]; exact h4)]
  have HRR := hide hr
  obtain ⟨l, hl⟩ : ∃ l, l = natsOf z := ⟨_, rfl⟩
  have hln : l.length = n := by rw [hl, HN.out]; simp [natsOf]
  have HL := hide hl
  have HLN := hide hln
  clear hr hl hln
  obtain ⟨i0, hi0, hz0, hz1, hz2⟩ := info_parts info_skip
  go_enter Try.func6, Try.ntmps6
  go_wp2_with fail
  have HB0 : Hid (Below w.heap.size w (w.alloc (.cells #[.int .i64 (n : Int), .int .i64 0, .slice none 0 0, .slice none 0 0] 39))) := hide (bl_alloc (bl_refl w) _)
  have HG0 : Hid ((w.alloc (.cells #[.int .i64 (n : Int), .int .i64 0, .slice none 0 0, .slice none 0 0] 39)).heap[w.heap.size]? = some (.cells #[.int .i64 (n : Int), .int .i64 0, .slice none 0 0, .slice none 0 0] 39 (0, 0))) := hide (heap_alloc_new w _)
  have HZ0 : Hid (w.heap.size < (w.alloc (.cells #[.int .i64 (n : Int), .int .i64 0, .slice none 0 0, .slice none 0 0] 39)).heap.size) := hide (by simp)
  generalize w.alloc (.cells #[.int .i64 (n : Int), .int .i64 0, .slice none 0 0, .slice none 0 0] 39) = w0 at *
  refine (newwriter_any w0).mono ?_
  rintro e w1 ⟨rfl, hs1, hb1⟩
  obtain ⟨gw, hgw⟩ : ∃ gw, gw = w0.heap.size := ⟨_, rfl⟩
  have HS1 := hide hs1
  have HG1 := hide ((hb1.block _ HZ0.out).trans HG0.out)
  have HB1 := hide (HB0.out.trans (hb1.mono HB0.out.size))
  have hglw : w.heap.size < gw := by rw [hgw]; exact HZ0.out
  rw [← hgw] at HS1
  rw [← hgw]
  clear hs1 hb1 HG0 HB0 HZ0 hgw
  go_wp2_with fail
  go_loopw [6, 19] (fun bv kv wr => ∃ (k : Nat) (r : Option Nat) (sv : Value), kv = .int .i64 (k : Int) ∧ bv = .int .i64 ((befQ l k : Int) - 1) ∧ k ≤ n ∧ Hid (chkL z = chkS (z.take k).getLast? (z.drop k)) ∧ Hid (∀ y ∈ z.take k, 0 ≤ y ∧ y ≤ 2147483647) ∧ Hid (WrS wr gw gw r (upQ l k)) ∧ Hid (wr.heap[w.heap.size]? = some (.cells #[.int .i64 (n : Int), .int .i64 0, .slice none 0 0, sv] 39 (0, 0))) ∧ Hid (wr.ownsRow gw 44 2 sv (skQ l k).length ((skQ l k).flatMap skC)) ∧ Hid (posQ l k ≤ 200 * k) ∧ Hid (Below w.heap.size w wr)) (fun _ kv _ => n - (intOf kv).toNat)
  case atStart => exact ⟨0, none, .slice none 0 0, rfl, rfl, Nat.zero_le _, hide (by rw [HRR.out]; rfl), hide (fun y hy => by simp at hy), HS1, HG1, hide ⟨rfl, .inl ⟨rfl, rfl⟩⟩, hide (by simp [posQ, upQ]), HB1⟩
  case round =>
    obtain ⟨k, r, sv, rfl, rfl, hk, HC, HRG, HS, HG, HO, HP, HB⟩ := hrel
    have hsz : gw < wr.heap.size := HS.out.lt.1
    by_cases hlt : k < n
    · obtain ⟨b, o, x, rfl, hbl, hx, e0⟩ := (HI.out.below HB.out).at_ hlt
      have hkn : (k : Int) < (n : Int) := by omega
      have hd := drop_at hx
      have HD := hide hd
      have HX := hide hx
      have hlk : l[k]? = some x.toNat := by rw [HL.out]; unfold natsOf; rw [List.getElem?_map, hx]; rfl
      have HLK := hide hlk
      -- the number in front
      have hpv : (k = 0 ∧ (z.take k).getLast? = none ∧ befQ l k = 0) ∨ ∃ y : Nat, (z.take k).getLast? = some (y : Int) ∧ befQ l k = y + 1 := by
        by_cases h0 : k = 0
        · left; subst h0; exact ⟨rfl, by simp, rfl⟩
        · right
          obtain ⟨j, rfl⟩ : ∃ j, k = j + 1 := ⟨k - 1, by omega⟩
          obtain ⟨y, hy⟩ : ∃ y, z[j]? = some y := ⟨_, List.getElem?_eq_getElem (by have := HN.out; omega)⟩
          have hy0 := HRG.out y (List.mem_of_getElem? (i := j) (by rw [List.getElem?_take, if_pos (by omega), hy]))
          obtain ⟨yn, rfl⟩ := Int.eq_ofNat_of_zero_le hy0.1
          refine ⟨yn, last_take hy, ?_⟩
          unfold befQ
          rw [if_neg (by omega), Nat.add_sub_cancel, HL.out]
          unfold natsOf
          simp [List.getD, hy]
      have HPV := hide hpv
      obtain ⟨bf, hbf⟩ : ∃ bf, bf = befQ l k := ⟨_, rfl⟩
      have HBF := hide hbf
      rw [← hbf] at HPV ⊢
      clear hd hx hlk hpv hbf hlt
      by_cases h1 : x < 0
      · have hr : chkL z = 8 := by rw [HC.out, HD.out, chkS_cons, if_pos (.inl h1)]
        have HR := hide hr
        clear hr
        go_wp2
        go_ret2
        rw [HR.out]
        exact ⟨fun _ => rfl, fun h => absurd h (by decide), HB.out⟩
      by_cases h2 : 2147483647 < x
      · have hr : chkL z = 8 := by rw [HC.out, HD.out, chkS_cons, if_pos (.inr h2)]
        have HR := hide hr
        clear hr
        go_wp2
        go_ret2
        rw [HR.out]
        exact ⟨fun _ => rfl, fun h => absurd h (by decide), HB.out⟩
      by_cases h3 : x ≤ (bf : Int) - 1
      · have hr : chkL z = 6 := by
          rw [HC.out, HD.out, chkS_cons, if_neg (by omega), if_pos]
          rcases HPV.out with ⟨_, _, h⟩ | ⟨y, h, h'⟩
          · omega
          · rw [h]; simp [geP]; omega
        have HR := hide hr
        clear hr
        go_wp2
        go_ret2
        rw [HR.out]
        exact ⟨fun _ => rfl, fun h => absurd h (by decide), HB.out⟩
      obtain ⟨xn, rfl⟩ := Int.eq_ofNat_of_zero_le (show 0 ≤ x by omega)
      have HC2 : Hid (chkL z = chkS (z.take (k + 1)).getLast? (z.drop (k + 1))) := hide (by
        rw [HC.out, HD.out, chkS_cons, if_neg (by omega), if_neg, last_take HX.out]
        rcases HPV.out with ⟨_, h, _⟩ | ⟨y, h, h'⟩
        · rw [h]; simp [geP]
        · rw [h]; simp [geP]; omega)
      have HRG2 : Hid (∀ y ∈ z.take (k + 1), 0 ≤ y ∧ y ≤ 2147483647) := hide (fun y hy => by
        rw [List.take_add_one, HX.out] at hy
        rcases List.mem_append.1 hy with h | h
        · exact HRG.out y h
        · simp at h; subst h; omega)
      have HLK2 := hide (show l[k]? = some xn by have := HLK.out; simpa using this)
      have HBF2 := hide (show befQ l (k + 1) = xn + 1 from befQ_succ HLK2.out)
      have HGQ := hide (show gapQ l k = xn + 1 - bf by unfold gapQ; rw [getD_at HLK2.out, ← HBF.out])
      obtain ⟨gq, hgq⟩ : ∃ gq, gq = xn + 1 - bf := ⟨_, rfl⟩
      have hgq0 : gq ≠ 0 := by omega
      have hgqb : gq < 4294967296 := by omega
      have egq : (xn : Int) - ((bf : Int) - 1) = (gq : Int) := by omega
      rw [← hgq] at HGQ
      have ewq : IntKind.u64.wrap (gq : Int) = (gq : Int) := by rw [IntKind.wrap_u64]; omega
      have HP2 := hide (show posQ l (k + 1) ≤ 200 * (k + 1) by
        have h5 := HP.out
        have h6 := delB_len gq (by omega)
        unfold posQ at *
        rw [upQ_succ, List.length_append, HGQ.out]; omega)
      have HPL := hide (show (upQ l k).length ≤ 1000000 by have h5 := HP.out; unfold posQ at h5; omega)
      have hx31 : (xn : Int) ≤ 2147483647 := by omega
      clear hgq
      by_cases h16 : k % 16 = 0
      · have t16 : (((k : Int) % 16) == 0) = true := by rw [beq_iff_eq]; omega
        have hap := HS.out.apart HO.out (by decide) (by decide)
        have HAP := hide hap
        have hglt : w.heap.size < wr.heap.size := by omega
        have hsvg : some w.heap.size ≠ sv.ownBlock := fun e => by have := (HO.out.lt _ e.symm).1; omega
        have HSVG := hide hsvg
        have hrb : ∀ j, sv.ownBlock = some j → j < wr.heap.size := fun j hj => (HO.out.lt j hj).2
        have hskl : (skQ l k).length ≤ 300 := by rw [skQ_length]; omega
        have HRB := hide hrb
        obtain ⟨ln, hln2⟩ : ∃ ln, ln = (upQ l k).length := ⟨_, rfl⟩
        have HLN2 := hide hln2
        have hlnb : ln ≤ 1000000 := by rw [hln2]; exact HPL.out
        clear hap hsvg hrb hln2
        go_wp2_with fail
        have hstart : GQ wr gw sv (skQ l k).length ((skQ l k).flatMap skC) (fun _ => false) wr.drew := ⟨⟨rfl, rfl, rfl, Nat.le_refl _, fun _ _ _ => rfl⟩, fun _ => HO.out⟩
        refine wp_region_F 11 (GQ wr gw sv (skQ l k).length ((skQ l k).flatMap skC)) (EQ sv.ownBlock) (by kernel_rfl) (by kernel_rfl) hstart (fun Q HQ => ?_)
        simp only [List.take_succ_cons, List.take_zero, List.map_cons, List.map_nil]
        have triv : ∀ {L : Nat → Bool} {wx : World} {i : Nat}, GQ wr gw sv (skQ l k).length ((skQ l k).flatMap skC) L wx → i ≠ 10 → GQ wr gw sv (skQ l k).length ((skQ l k).flatMap skC) (upL L i) wx ∧ EQ sv.ownBlock i wx wx := fun h hi => ⟨h.same (Below.refl _ _) hi, EQ.of (Below.refl _ _)⟩
        have cel : ∀ {L : Nat → Bool} {wx : World}, GQ wr gw sv (skQ l k).length ((skQ l k).flatMap skC) L wx → wx.cell? ⟨w.heap.size, 3, none⟩ = some sv := fun h => cell_of_row _ _ 3 _ _ _ ((h.1.block w.heap.size hglt HSVG.out).trans HG.out)
        have wrs : ∀ {L : Nat → Bool} {wx : World}, GQ wr gw sv (skQ l k).length ((skQ l k).flatMap skC) L wx → WrS wx gw gw r (upQ l k) := fun h => HS.out.keep (h.1.block gw hsz (fun e => HAP.out.2 e.symm)) (fun j hj => h.1.block j (HS.out.lt.2.2 j hj).2 (fun e => HAP.out.1 j e.symm hj.symm))
        apply wpF_c rfl
        focus
          intro L ev wx hG hL hM hx
          (try simp [Op.operands, Call.operands, opndS, Slot.holds] at hx)
          go_simp
          exact ⟨(triv hG (by decide)).1, (triv (i := 0) hG (by decide)).2, rfl⟩
        dsimp only [setS, List.set]
        apply wpF_c rfl
        focus
          intro L ev wx hG hL hM hx
          (try simp [Op.operands, Call.operands, opndS, Slot.holds] at hx)
          go_simp
          exact ⟨(triv hG (by decide)).1, (triv (i := 1) hG (by decide)).2, rfl⟩
        dsimp only [setS, List.set]
        apply wpF_c rfl
        focus
          intro L ev wx hG hL hM hx
          (try simp [Op.operands, Call.operands, opndS, Slot.holds] at hx)
          go_simp
          exact ⟨(triv hG (by decide)).1, (triv (i := 2) hG (by decide)).2, rfl⟩
        dsimp only [setS, List.set]
        apply wpF_c rfl
        focus
          intro L ev wx hG hL hM hx
          (try simp [Op.operands, Call.operands, opndS, Slot.holds] at hx)
          go_simp
          exact ⟨(triv hG (by decide)).1, (triv (i := 3) hG (by decide)).2, rfl⟩
        dsimp only [setS, List.set]
        apply wpF_c rfl
        focus
          intro L ev wx hG hL hM hx
          (try simp [Op.operands, Call.operands, opndS, Slot.holds] at hx)
          have x3 := cel hG
          go_simp
          exact ⟨(triv hG (by decide)).1, (triv (i := 4) hG (by decide)).2, rfl⟩
        dsimp only [setS, List.set]
        apply wpF_c rfl
        focus
          intro L ev wx hG hL hM hx
          (try simp [Op.operands, Call.operands, opndS, Slot.holds] at hx)
          go_simp
          exact ⟨(triv hG (by decide)).1, (triv (i := 5) hG (by decide)).2, rfl⟩
        dsimp only [setS, List.set]
        apply wpF_c rfl
        focus
          intro L ev wx hG hL hM hx
          (try simp [Op.operands, Call.operands, opndS, Slot.holds] at hx)
          go_simp
          exact ⟨(triv hG (by decide)).1, (triv (i := 6) hG (by decide)).2, rfl⟩
        dsimp only [setS, List.set]
        apply wpF_c (v := .int .i64 (ln : Int)) rfl
        focus
          intro L ev wx hG hL hM hx
          (try simp [Op.operands, Call.operands, opndS, Slot.holds] at hx)
          go_simp
          refine (wlen_any gw gw r (upQ l k) wx (wrs hG) (by have := HLN2.out; omega)).mono ?_
          rintro e w' ⟨rfl, rfl⟩
          rw [← HLN2.out]
          exact ⟨_, rfl, (triv hG (by decide)).1, (triv (i := 7) hG (by decide)).2, rfl⟩
        dsimp only [setS, List.set]
        apply wpF_c rfl
        focus
          intro L ev wx hG hL hM hx
          (try simp [Op.operands, Call.operands, opndS, Slot.holds] at hx)
          go_simp
          exact ⟨(triv hG (by decide)).1, (triv (i := 8) hG (by decide)).2, rfl⟩
        dsimp only [setS, List.set]
        refine wpF_p (R := PBq wr.heap.size (xn : Int) (ln : Int)) rfl (stabPBq HRB.out) ?_ ?_
        focus
          intro L ev wx hG hL hM hx
          (try simp [Op.operands, Call.operands, opndS, Slot.holds] at hx)
          go_simp
          exact ⟨hG.same (bl_alloc (bl_refl wx) _) (by decide), EQ.of (bl_alloc (bl_refl wx) _), wx.heap.size, rfl, hG.1.size, heap_alloc_new wx _⟩
        dsimp only [setS, List.set]
        refine wpF_p (R := POq gw ((skQ l k).length + 1) ((skQ l k).flatMap skC ++ skC (xn, ln))) rfl (stabPOq (.inl rfl)) ?_ ?_
        focus
          intro L ev wx hG hL hM hx
          (try simp [Op.operands, Call.operands, opndS, Slot.holds] at hx)
          obtain ⟨hv65, gb, hv67, hgb, hcb⟩ := hx
          have hrdx : Rd wx (some ⟨gb, 0, none⟩) (skC (xn, ln)) := .inr ⟨gb, 0, rfl, (Array.getElem?_eq_some_iff.1 hcb).1, fun j v hv => by rw [Nat.zero_add, cell_of_row wx gb j _ _ _ hcb]; simpa [skC, nv] using hv⟩
          obtain ⟨v', w', hrun, h2, h3, h4⟩ := run_append_rd (P := Try.prog) wx gw 37 37 44 i0 _ 2 16 Try.underlying37 hi0 hz0 hz1 hz2 rfl (by omega) sv (skQ l k).length ((skQ l k).flatMap skC) (hG.2 hL) (some ⟨gb, 0, none⟩) 1 1 (skC (xn, ln)) rfl hrdx (by intro u hu; simp [skC] at hu; rcases hu with rfl | rfl <;> rfl) (by simp only [maxLen]; omega) (by omega) (Nat.le_trans (Nat.le_of_lt hsz) hG.1.size)
          unfold execOp
          simp only [resolve, invoke, builtin, Sem.run_bind, Sem.run_pure, Result.andThen_ok, List.map_toArray, List.map_cons, List.map_nil, hv65, hv67, hrun]
          exact ⟨⟨hG.1.trans h3, fun h => by simp [upL] at h⟩, ⟨h3, fun h => absurd rfl h⟩, h2⟩
        dsimp only [setS, List.set]
        refine wpF_nil (HQ _ fun w6 hG6 => ?_)
        simp only [closeS, List.drop_succ_cons, List.drop_zero, List.drop_nil]
        clear HQ hstart triv cel
        rintro v47 - v48 hown
        have hown : w6.ownsRow gw 44 2 v48 ((skQ l k).length + 1) ((skQ l k).flatMap skC ++ skC (xn, ln)) := hown
        obtain ⟨A8, c8, rfl, hc8, hr8⟩ := ownG_form hown
        clear hc8 hr8
        obtain ⟨v48, hv⟩ : ∃ v, v = Value.slice A8 ((skQ l k).length + 1) c8 := ⟨_, rfl⟩
        rw [← hv] at hown
        have hb06 : Below w.heap.size w w6 := bl_grown HB.out hG6.1 (fun j hj => by have := (HO.out.lt j hj).1; omega)
        have hg6 : w6.heap[w.heap.size]? = some (.cells #[.int .i64 (n : Int), .int .i64 0, .slice none 0 0, sv] 39 (0, 0)) := (hG6.1.block w.heap.size hglt HSVG.out).trans HG.out
        have hw6 := wrs hG6
        have c3 : w6.cell? ⟨w.heap.size, 3, none⟩ = some sv := cell_of_row w6 _ 3 _ _ _ hg6
        have f3 : w6.frozen? ⟨w.heap.size, 3, none⟩ = false := by simp [World.frozen?, hg6]
        have hv48 : ∀ j, v48.ownBlock = some j → gw ≤ j := fun j hj => (hown.lt j hj).1
        have HGX := hide (show (w6.setCell ⟨w.heap.size, 3, none⟩ v48).heap[w.heap.size]? = some (.cells #[.int .i64 (n : Int), .int .i64 0, .slice none 0 0, v48] 39 (0, 0)) by simp [World.setCell, Array.getElem?_modify, hg6])
        have hgs : w6.grownBy (w6.setCell ⟨w.heap.size, 3, none⟩ v48) (some w.heap.size) := ⟨rfl, rfl, rfl, by simp [World.setCell], fun k _ hk => heap_setCell_other w6 ⟨w.heap.size, 3, none⟩ k _ (fun e => hk (by rw [e]))⟩
        have HWX := hide (hw6.keep (hgs.block gw hw6.lt.1 (fun e => by injection e with e; omega)) (fun j hj => hgs.block j (hw6.lt.2.2 j hj).2 (fun e => by injection e with e; have := (hw6.lt.2.2 j hj).1; omega)))
        have HOX := hide (show (w6.setCell ⟨w.heap.size, 3, none⟩ v48).ownsRow gw 44 2 v48 (skQ l (k + 1)).length ((skQ l (k + 1)).flatMap skC) by
          have h5 := ownG_blocks hown (fun j hj => hgs.block j (hown.lt j hj).2 (fun e => by injection e with e; have := hv48 j hj; omega))
          rw [skQ_new l k h16, getD_at HLK2.out, show posQ l k = ln from HLN2.out.symm, List.length_append, List.flatMap_append]
          simpa using h5)
        have HBX := hide (bl_set hb06 (p := ⟨w.heap.size, 3, none⟩) (Nat.le_refl _) v48)
        have hszX : gw < (w6.setCell ⟨w.heap.size, 3, none⟩ v48).heap.size := by have := hw6.lt.1; simpa [World.setCell] using this
        subst hv
        clear hown hG6 hb06 hg6 hw6 hv48 hgs wrs h16
        go_wp2_with fail
        generalize w6.setCell ⟨w.heap.size, 3, none⟩ (Value.slice A8 ((skQ l k).length + 1) c8) = wD at *
        go_wp2_with fail
        refine (wdelta_any gw gw r (upQ l k) _ gq wD rfl (by omega) HWX.out (by have := HPL.out; omega) (Nat.le_of_lt hszX)).mono ?_
        rintro e w5 ⟨rfl, hst⟩
        rw [wDelta_del gq hgq0] at hst ⊢
        obtain ⟨r5, hs5, hc5, hr5⟩ := hst
        have hap := HWX.out.apart HOX.out (by decide) (by decide)
        have HS5 := hide (show WrS w5 gw gw r5 (upQ l (k + 1)) by rw [upQ_succ, HGQ.out]; exact hs5)
        have HG5 := hide ((hc5.block _ (by omega) (by omega) (fun e => by have := (HWX.out.lt.2.2 _ e.symm).1; omega)).trans HGX.out)
        have HO5 := hide (ownG_blocks HOX.out (fun j hj => hc5.block j (HOX.out.lt j hj).2 (fun e => hap.2 (by rw [hj, e])) (hap.1 j hj)))
        have HB5 := hide (HBX.out.trans ((hc5.below (base := gw) (Nat.le_refl _) (fun k hk => (HWX.out.lt.2.2 k hk).1) (Nat.le_of_lt hszX)).mono (Nat.le_of_lt hglw)))
        clear hs5 hc5 hr5 hap
        simp only [cod, Option.isSome_some, if_true]
        go_wp2
        go_roundw
        case rel => exact ⟨k + 1, r5, _, by go_num, i64_eq (by rw [HBF2.out]; omega), by omega, HC2, HRG2, HS5, HG5, HO5, HP2, HB5⟩
        case measure => simp [intOf]; omega
      · have t16 : (((k : Int) % 16) == 0) = false := by rw [beq_eq_false_iff_ne]; omega
        have HOX := hide (show wr.ownsRow gw 44 2 sv (skQ l (k + 1)).length ((skQ l (k + 1)).flatMap skC) by rw [skQ_old l k h16]; exact HO.out)
        have HWX := HS
        have HGX := HG
        have HBX := HB
        have hszX := hsz
        clear h16
        generalize wr = wD at *
        go_wp2_with fail
        refine (wdelta_any gw gw r (upQ l k) _ gq wD rfl (by omega) HWX.out (by have := HPL.out; omega) (Nat.le_of_lt hszX)).mono ?_
        rintro e w5 ⟨rfl, hst⟩
        rw [wDelta_del gq hgq0] at hst ⊢
        obtain ⟨r5, hs5, hc5, hr5⟩ := hst
        have hap := HWX.out.apart HOX.out (by decide) (by decide)
        have HS5 := hide (show WrS w5 gw gw r5 (upQ l (k + 1)) by rw [upQ_succ, HGQ.out]; exact hs5)
        have HG5 := hide ((hc5.block _ (by omega) (by omega) (fun e => by have := (HWX.out.lt.2.2 _ e.symm).1; omega)).trans HGX.out)
        have HO5 := hide (ownG_blocks HOX.out (fun j hj => hc5.block j (HOX.out.lt j hj).2 (fun e => hap.2 (by rw [hj, e])) (hap.1 j hj)))
        have HB5 := hide (HBX.out.trans ((hc5.below (base := gw) (Nat.le_refl _) (fun k hk => (HWX.out.lt.2.2 k hk).1) (Nat.le_of_lt hszX)).mono (Nat.le_of_lt hglw)))
        clear hs5 hc5 hr5 hap
        simp only [cod, Option.isSome_some, if_true]
        go_wp2
        go_roundw
        case rel => exact ⟨k + 1, r5, _, by go_num, i64_eq (by rw [HBF2.out]; omega), by omega, HC2, HRG2, HS5, HG5, HO5, HP2, HB5⟩
        case measure => simp [intOf]; omega
    · obtain rfl : k = n := by omega
      have hz0' : chkL z = 0 := by
        have h5 := HC.out
        rw [List.drop_eq_nil_of_le (by rw [← HN.out]; exact Nat.le_refl _)] at h5
        rw [h5]; rfl
      have H0 := hide hz0'
      have HPL := hide (show (upQ l k).length ≤ 1000000 by have h5 := HP.out; unfold posQ at h5; omega)
      have hsz0 : w.heap.size < wr.heap.size := by omega
      clear hz0' hlt hk
      generalize wr = wA at *
      go_wp2_with fail
      refine (wbytes_any gw gw r (upQ l k) wA HS.out (by have := HPL.out; omega) (Nat.le_of_lt hsz)).mono ?_
      rintro e w2 ⟨v2, rfl, ho2, hb2⟩
      obtain ⟨y1, A2, c2, rfl, hc2, hrd2, y2, y3⟩ := own_form ho2
      have HA2 := hide (fun b hb => (show wA.heap.size ≤ b.block from y3 b hb))
      have HRD2 := hide hrd2
      have HS2 := hide (HS.out.below hb2)
      have HG2 := hide ((hb2.block _ hsz0).trans HG.out)
      have HO2 := hide (ownG_blocks HO.out (fun j hj => hb2.block j (HO.out.lt j hj).2))
      have HB2 := hide (HB.out.trans (hb2.mono (Nat.le_of_lt hsz0)))
      obtain ⟨m, hm⟩ : ∃ m, m = (packL (upQ l k)).length := ⟨_, rfl⟩
      have HM := hide hm
      rw [← hm] at hc2 ⊢
      clear y1 y2 y3 hrd2 ho2 hb2 hm
      go_wp2_with fail
      refine (wlen_any gw gw r (upQ l k) w2 HS2.out (by have := HPL.out; omega)).mono ?_
      rintro e w' ⟨rfl, rfl⟩
      obtain ⟨ln, hln2⟩ : ∃ ln, ln = (upQ l k).length := ⟨_, rfl⟩
      have HLN2 := hide hln2
      rw [← hln2]
      obtain ⟨B, cB, rfl, hcB, hrB⟩ : ∃ a c, sv = .slice a (skQ l k).length c ∧ (skQ l k).length ≤ c ∧ Rd w2 a ((skQ l k).flatMap skC) := ownG_form HO2.out
      have HRB := hide hrB
      have HBB := hide (fun b (hb : B = some b) => show gw ≤ b.block from by subst hb; exact (HO2.out.lt b.block rfl).1)
      have a1 : w2.cell? ⟨w.heap.size, 1, none⟩ = some (.int .i64 0) := cell_of_row w2 _ 1 _ _ _ HG2.out
      have a2 : w2.cell? ⟨w.heap.size, 2, none⟩ = some (.slice none 0 0) := cell_of_row w2 _ 2 _ _ _ HG2.out
      have f0 : ∀ j, w2.frozen? ⟨w.heap.size, j, none⟩ = false := fun j => by simp [World.frozen?, HG2.out]
      have f1 := f0 1
      have f2 := f0 2
      obtain ⟨wZ, hwZ⟩ : ∃ wZ, wZ = (w2.setCell ⟨w.heap.size, 2, none⟩ (.slice A2 m c2)).setCell ⟨w.heap.size, 1, none⟩ (.int .i64 (ln : Int)) := ⟨_, rfl⟩
      have HZG := hide (show wZ.heap[w.heap.size]? = some (.cells #[nv l.length, nv (posQ l l.length), .slice A2 m c2, .slice B (skQ l k).length cB] 39 (0, 0)) by
        rw [hwZ, HLN.out]
        simp [World.setCell, Array.getElem?_modify, HG2.out, nv, HLN2.out, posQ])
      have hgZ : w2.grownBy wZ (some w.heap.size) := by
        rw [hwZ]
        exact ⟨rfl, rfl, rfl, by simp [World.setCell], fun k _ hk => by
          have hk2 : k ≠ w.heap.size := fun e => hk (by rw [e])
          rw [heap_setCell_other _ ⟨w.heap.size, 1, none⟩ k _ hk2, heap_setCell_other _ ⟨w.heap.size, 2, none⟩ k _ hk2]⟩
      have HBZ := hide (bl_grown HB2.out hgZ (fun j hj => by injection hj with hj; omega))
      have HRA := hide (Rd.grown HRD2.out hgZ (fun b hb e => by have := HA2.out b hb; injection e with e; omega))
      have HRS := hide (Rd.grown HRB.out hgZ (fun b hb e => by have := HBB.out b hb; injection e with e; omega))
      clear hln2 hgZ hrB
      go_wp2
      rw [← hwZ]
      go_ret2
      refine ⟨fun h => absurd H0.out h, fun _ => ⟨w.heap.size, rfl, Nat.le_refl _, ?_⟩, HBZ.out⟩
      rw [← HL.out]
      refine ⟨A2, m, c2, B, (skQ l k).length, cB, HZG.out, ?_, hc2, ?_, ?_, hcB, ?_⟩
      · rw [HLN.out]; exact HM.out
      · rw [HLN.out]; exact HRA.out
      · rw [HLN.out]
      · rw [HLN.out]; exact HRS.out
end Go.Proofs.Ytbicpnhgokngeaa
