/- The walk of the reference's Bytes. -/
import Derived.Test.YtchcaidcohgjbaaKEnW
import Derived.Test.YtchcaidcohgjbaaPackW
namespace Go.Proofs.Ytchcaidcohgjbaa
open Go.RowKit
set_option linter.unusedVariables false
set_option linter.unusedSimpArgs false
theorem own_two {w : World} {base base' : Nat} {e e' : TypeId} {v v' : Value} {n n' : Nat} {xs xs' : List Value} (h : w.ownsRow base e 1 v n xs) (h' : w.ownsRow base' e' 1 v' n' xs') (hne : e ≠ e') : v.ownBlock = none ∨ v.ownBlock ≠ v'.ownBlock := by
  rcases h.2 with ⟨rfl, _⟩ | ⟨g, cap, cur, rfl, _, h3, _⟩
  · exact .inl rfl
  · refine .inr fun he => ?_
    rcases h'.2 with ⟨rfl, _⟩ | ⟨g', cap', cur', rfl, _, h3', _⟩
    · simp [Value.ownBlock] at he
    · simp [Value.ownBlock] at he
      subst he
      rw [h3] at h3'
      simp at h3'
      exact hne h3'.2
set_option maxHeartbeats 1000000 in
set_option maxRecDepth 100000 in
theorem rbytes_any (a : Option Addr) (n cap : Nat) (vs : List Nat) (wd : Nat) (x : Int) (w : World) (h : IsV w a n vs) (hok : okV vs) (hx : x = wd) (hw : wd ≤ 31) :
    Calls Try.prog 17 #[.slice a n cap, .int .i64 x] w fun e w' => ∃ v, e = .returned v ∧ w'.ownsRow w.heap.size 5 1 v (encM wd vs).length ((encM wd vs).map u8v) ∧ Below w.heap.size w w' := by
  subst hx
  have HI := hide h
  have HN := hide h.1
  have HOK := hide hok
  have hn128 : n ≤ 128 := by rw [h.1]; exact hok.1
  clear h hok
  obtain ⟨i0, hi0, hz0, hz1, hz2⟩ := info_parts info_u8
  obtain ⟨i1, hi1, hy0, hy1, hy2⟩ := info_parts info_bool
  go_enter Try.func17, Try.ntmps17
  go_wp2_with fail
  go_loopw [5, 6, 7, 8, 14] (fun bv ev c bf i wr => ∃ (k C G nb en : Nat), c = .int .i64 (C : Int) ∧ bf = .int .i64 ((k : Int) - G) ∧ i = .int .i64 (k : Int) ∧ k ≤ n ∧ Hid (wr.ownsRow w.heap.size 4 1 bv nb ((lowsB wd (vs.take k)).map Value.bool)) ∧ Hid (wr.ownsRow w.heap.size 5 1 ev en ((exB wd 1 (vs.take k)).map u8v)) ∧ Hid (C = exN wd (vs.take k)) ∧ Hid (G = gapD wd 1 (vs.take k)) ∧ 1 ≤ G ∧ G ≤ k + 1 ∧ en ≤ 20 * k ∧ nb ≤ 31 * k ∧ C ≤ k ∧ Hid (Below w.heap.size w wr)) (fun _ _ _ _ i _ => n - (intOf i).toNat)
  case atStart => exact ⟨0, 0, 1, 0, 0, rfl, rfl, rfl, Nat.zero_le _, hide ⟨rfl, .inl ⟨rfl, rfl⟩⟩, hide ⟨rfl, .inl ⟨rfl, rfl⟩⟩, hide rfl, hide rfl, Nat.le_refl _, Nat.le_refl _, Nat.le_refl _, Nat.le_refl _, Nat.le_refl _, hide (bl_refl w)⟩
  case round =>
    obtain ⟨k, C, G, nb, en, rfl, rfl, rfl, hk, HBI, HEX, HC, HG, g1, g2, g3, g5, g4, HB⟩ := hrel
    have hsz : w.heap.size ≤ wr.heap.size := HB.out.size
    by_cases hlt : k < n
    · obtain ⟨b, o, v, rfl, hbl, hv, e0⟩ := (HI.out.below HB.out).at_ hlt
      have hkn : (k : Int) < (n : Int) := by omega
      have hv31 : v < 2 ^ 31 := HOK.out.2 v (List.mem_of_getElem? hv)
      have ht := take_at hv
      have HBE := hide (exB_snoc wd v (vs.take k) 1)
      have HCC := hide (exN_snoc wd v (vs.take k))
      have HGG := hide (gapD_snoc wd v (vs.take k) 1)
      have HLL := hide (lowsB_snoc wd v (vs.take k))
      rw [← ht] at HBE HCC HGG HLL
      rw [← HG.out] at HBE HGG
      rw [← HC.out] at HCC
      obtain ⟨q, hq⟩ : ∃ q, q = v / 2 ^ wd := ⟨_, rfl⟩
      rw [← hq] at HBE HCC HGG
      have hqv : q < 2 ^ 31 := by rw [hq]; exact Nat.lt_of_le_of_lt (Nat.div_le_self _ _) hv31
      have e1 : ((v : Int) / 2 ^ wd) = (q : Int) := by rw [hq]; simp
      have e1u : IntKind.u64.wrap (v : Int) = (v : Int) := by rw [IntKind.wrap_u64]; omega
      have HE1 := hide e1
      have en1 : vs.length ≤ 128 := by rw [← HN.out]; exact hn128
      clear hv ht hlt hq
      go_wp2_with fail
      refine (low_ref (v : Int) (wd : Int) v wd wr rfl rfl (by omega) (by omega)).mono ?_
      rintro e w2 ⟨v2, rfl, ho2, hb2⟩
      obtain ⟨y1, A2, c2, rfl, hn2, hrd2, y2, y3⟩ := own_form ho2
      have HRD2 := hide hrd2
      have HB2 := hide (HB.out.trans (hb2.mono hsz))
      have HBI2 := hide (own_below HBI.out hb2)
      have HEX2 := hide (own_below HEX.out hb2)
      have s2 : wr.heap.size ≤ w2.heap.size := hb2.size
      clear ho2 hb2 hrd2 hn2 y1 y2 y3
      have HLB := hide (lowB_length v wd)
      have HBL : Hid ((lowsB wd (vs.take (k + 1))).map Value.bool = (lowsB wd (vs.take k)).map Value.bool ++ (lowB v wd).map Value.bool) := hide (by rw [HLL.out, List.map_append])
      by_cases h0 : q = 0
      · have q0 : ((q : Int) != 0) = false := by simp [h0]
        have HBE2 := hide (show exB wd 1 (vs.take (k + 1)) = exB wd 1 (vs.take k) by rw [HBE.out, if_pos h0, List.append_nil])
        have HCC2 := hide (show exN wd (vs.take (k + 1)) = C by rw [HCC.out, if_pos h0])
        have HGG2 := hide (show gapD wd 1 (vs.take (k + 1)) = G + 1 by rw [HGG.out, if_pos h0])
        clear HBE HCC HGG h0
        go_wp2_with (at_builtin; (refine wpList_append_rd _ rfl (.tmp 19) (.tmp 23) 49 rfl w.heap.size 4 i1 _ 1 1 Try.underlying49 hi1 hy0 hy1 hy2 rfl (by omega) _ _ _ rfl HBI2.out A2 wd c2 _ rfl (by rw [List.length_map, Nat.mul_one]; exact HLB.out) HRD2.out (bools_one _) (by simp only [maxLen]; omega) (by omega) (by omega) ?_); intro v3 w3 ho3 hg3 hat3; have HBI3 := hide ho3; have HEX3 := hide (World.ownsRow.kept HEX2.out hg3 (own_two HEX2.out HBI2.out (by decide))); have HB3 := hide (bl_grown HB2.out hg3 (fun k h => (HBI2.out.lt k h).1)); have s3 : w2.heap.size ≤ w3.heap.size := hg3.size; clear ho3 hg3 hat3)
        go_roundw
        case rel => exact ⟨k + 1, C, G + 1, nb + wd, en, rfl, i64_eq (by omega), by go_num, by omega, hide (by rw [HBL.out]; exact HBI3.out), hide (by rw [HBE2.out]; exact HEX3.out), hide HCC2.out.symm, hide HGG2.out.symm, by omega, by omega, by omega, by omega, by omega, HB3⟩
        case measure => simp [intOf]; omega
      · have q0 : ((q : Int) != 0) = true := by rw [bne_iff_ne]; omega
        have HBE2 := hide (show (exB wd 1 (vs.take (k + 1))).map u8v = (exB wd 1 (vs.take k)).map u8v ++ (uv G).map u8v ++ (uv q).map u8v by rw [HBE.out, if_neg h0, ← List.append_assoc, List.map_append, List.map_append])
        have HCC2 := hide (show exN wd (vs.take (k + 1)) = C + 1 by rw [HCC.out, if_neg h0])
        have HGG2 := hide (show gapD wd 1 (vs.take (k + 1)) = 1 by rw [HGG.out, if_neg h0])
        clear HBE HCC HGG h0
        obtain ⟨x1, hx1⟩ : ∃ x, x = (uv G).length := ⟨_, rfl⟩
        obtain ⟨x2, hx2⟩ : ∃ x, x = (uv q).length := ⟨_, rfl⟩
        have l1 : x1 ≤ 10 := by rw [hx1]; exact (uv_le10 G).2
        have l2 : x2 ≤ 10 := by rw [hx2]; exact (uv_le10 q).2
        have HX1 := hide hx1
        have HX2 := hide hx2
        have e1q : IntKind.u64.wrap (q : Int) = (q : Int) := by rw [IntKind.wrap_u64]; omega
        have e1g : (k : Int) - ((k : Int) - G) = (G : Int) := by omega
        have e2g : IntKind.u64.wrap (G : Int) = (G : Int) := by rw [IntKind.wrap_u64]; omega
        clear hx1 hx2
        go_wp2_with (at_builtin; (refine wpList_append_rd _ rfl (.tmp 19) (.tmp 23) 49 rfl w.heap.size 4 i1 _ 1 1 Try.underlying49 hi1 hy0 hy1 hy2 rfl (by omega) _ _ _ rfl HBI2.out A2 wd c2 _ rfl (by rw [List.length_map, Nat.mul_one]; exact HLB.out) HRD2.out (bools_one _) (by simp only [maxLen]; omega) (by omega) (by omega) ?_); intro v3 w3 ho3 hg3 hat3; have HBI3 := hide ho3; have HEX3 := hide (World.ownsRow.kept HEX2.out hg3 (own_two HEX2.out HBI2.out (by decide))); have HB3 := hide (bl_grown HB2.out hg3 (fun k h => (HBI2.out.lt k h).1)); have s3 : w2.heap.size ≤ w3.heap.size := hg3.size; clear ho3 hg3 hat3)
        refine (ruv_any _ G w3 (by omega) (by omega)).mono ?_
        rintro e w4 ⟨v4, rfl, ho4, hb4⟩
        rw [← HX1.out] at ho4
        obtain ⟨y1, A4, c4, rfl, hn4, hrd4, y2, y3⟩ := own_form ho4
        have HRD4 := hide hrd4
        have HB4 := hide (HB3.out.trans (hb4.mono (Nat.le_trans hsz (Nat.le_trans s2 s3))))
        have HBI4 := hide (own_below HBI3.out hb4)
        have HEX4 := hide (own_below HEX3.out hb4)
        have s4 : w3.heap.size ≤ w4.heap.size := hb4.size
        clear ho4 hb4 hrd4 hn4 y1 y2 y3
        go_wp2_with (at_builtin; (refine wpList_append_rd _ rfl (.tmp 32) (.tmp 37) 28 rfl w.heap.size 5 i0 _ 1 1 Try.underlying28 hi0 hz0 hz1 hz2 rfl (by omega) _ _ _ rfl HEX4.out A4 x1 c4 _ rfl (by rw [List.length_map, Nat.mul_one]; exact HX1.out.symm) HRD4.out (u8s_one _) (by simp only [maxLen]; omega) (by omega) (by omega) ?_); intro v5 w5 ho5 hg5 hat5; have HEX5 := hide ho5; have HBI5 := hide (World.ownsRow.kept HBI4.out hg5 (own_two HBI4.out HEX4.out (by decide))); have HB5 := hide (bl_grown HB4.out hg5 (fun k h => (HEX4.out.lt k h).1)); have s5 : w4.heap.size ≤ w5.heap.size := hg5.size; clear ho5 hg5 hat5)
        refine (ruv_any _ q w5 (by omega) (by omega)).mono ?_
        rintro e w6 ⟨v6, rfl, ho6, hb6⟩
        rw [← HX2.out] at ho6
        obtain ⟨y1, A6, c6, rfl, hn6, hrd6, y2, y3⟩ := own_form ho6
        have HRD6 := hide hrd6
        have HB6 := hide (HB5.out.trans (hb6.mono (by omega)))
        have HBI6 := hide (own_below HBI5.out hb6)
        have HEX6 := hide (own_below HEX5.out hb6)
        have s6 : w5.heap.size ≤ w6.heap.size := hb6.size
        clear ho6 hb6 hrd6 hn6 y1 y2 y3
        go_wp2_with (at_builtin; (refine wpList_append_rd _ rfl (.tmp 38) (.tmp 44) 28 rfl w.heap.size 5 i0 _ 1 1 Try.underlying28 hi0 hz0 hz1 hz2 rfl (by omega) _ _ _ rfl HEX6.out A6 x2 c6 _ rfl (by rw [List.length_map, Nat.mul_one]; exact HX2.out.symm) HRD6.out (u8s_one _) (by simp only [maxLen]; omega) (by omega) (by omega) ?_); intro v7 w7 ho7 hg7 hat7; have HEX7 := hide ho7; have HBI7 := hide (World.ownsRow.kept HBI6.out hg7 (own_two HBI6.out HEX6.out (by decide))); have HB7 := hide (bl_grown HB6.out hg7 (fun k h => (HEX6.out.lt k h).1)); clear ho7 hg7 hat7)
        go_roundw
        case rel => exact ⟨k + 1, C + 1, 1, nb + wd, en + x1 + x2, by go_num, i64_eq (by omega), by go_num, by omega, hide (by rw [HBL.out]; exact HBI7.out), hide (by rw [HBE2.out]; exact HEX7.out), hide HCC2.out.symm, hide HGG2.out.symm, by omega, by omega, by omega, by omega, by omega, HB7⟩
        case measure => simp [intOf]; omega
    · obtain rfl : k = n := by omega
      have hall : vs.take k = vs := List.take_of_length_le (by rw [← HN.out]; exact Nat.le_refl _)
      rw [hall] at HBI HEX HC HG
      have HLB := hide (show nb = (lowsB wd vs).length by have := HBI.out.1; simpa using this.symm)
      have HLE := hide (show en = (exB wd 1 vs).length by have := HEX.out.1; simpa using this.symm)
      obtain ⟨x1, hx1⟩ : ∃ x, x = (uv k).length := ⟨_, rfl⟩
      obtain ⟨x2, hx2⟩ : ∃ x, x = (uv wd).length := ⟨_, rfl⟩
      obtain ⟨x3, hx3⟩ : ∃ x, x = (uv C).length := ⟨_, rfl⟩
      obtain ⟨x4, hx4⟩ : ∃ x, x = (packL (lowsB wd vs)).length := ⟨_, rfl⟩
      have l1 : x1 ≤ 10 := by rw [hx1]; exact (uv_le10 k).2
      have l2 : x2 ≤ 10 := by rw [hx2]; exact (uv_le10 wd).2
      have l3 : x3 ≤ 10 := by rw [hx3]; exact (uv_le10 C).2
      have l4 : x4 ≤ 10000 := by rw [hx4, packL_length, ← HLB.out]; unfold nby; omega
      have HX1 := hide hx1
      have HX2 := hide hx2
      have HX3 := hide hx3
      have HX4 := hide hx4
      have e1k : IntKind.u64.wrap (k : Int) = (k : Int) := by rw [IntKind.wrap_u64]; omega
      have e1w : IntKind.u64.wrap (wd : Int) = (wd : Int) := by rw [IntKind.wrap_u64]; omega
      have e1c : IntKind.u64.wrap (C : Int) = (C : Int) := by rw [IntKind.wrap_u64]; omega
      clear hx1 hx2 hx3 hx4 hall
      obtain ⟨y1, ba, bc, rfl, y2, y3, y4, y5⟩ := own_form HBI.out
      have RBwr := hide y3
      have LB : Hid (∀ b, ba = some b → b.block < wr.heap.size) := hide fun b hb => by subst hb; exact (HBI.out.lt b.block rfl).2
      clear y1 y2 y3 y4 y5
      obtain ⟨y1, ea, ec, rfl, y2, y3, y4, y5⟩ := own_form HEX.out
      have REwr := hide y3
      have LE : Hid (∀ b, ea = some b → b.block < wr.heap.size) := hide fun b hb => by subst hb; exact (HEX.out.lt b.block rfl).2
      clear y1 y2 y3 y4 y5
      go_wp2_with fail
      refine (ruv_any _ k wr rfl (by omega)).mono ?_
      rintro e w1 ⟨v0, rfl, ho, hb⟩
      rw [← HX1.out] at ho
      have Ow1 := hide ho
      obtain ⟨y1, A1, c1, rfl, hn, hrd, y2, y3⟩ := own_form ho
      have Rw1 := hide hrd
      have B1 := hide (HB.out.trans (hb.mono (by omega)))
      have sw1 : wr.heap.size ≤ w1.heap.size := hb.size
      have RBw1 := hide (RBwr.out.below hb)
      have REw1 := hide (REwr.out.below hb)
      clear ho hb hrd hn y1 y2 y3
      go_wp2_with fail
      refine (ruv_any _ wd w1 rfl (by omega)).mono ?_
      rintro e w2 ⟨v0, rfl, ho, hb⟩
      rw [← HX2.out] at ho
      have Ow2 := hide ho
      obtain ⟨y1, A2, c2, rfl, hn, hrd, y2, y3⟩ := own_form ho
      have Rw2 := hide hrd
      have B2 := hide (B1.out.trans (hb.mono (by omega)))
      have sw2 : w1.heap.size ≤ w2.heap.size := hb.size
      have RBw2 := hide (RBw1.out.below hb)
      have REw2 := hide (REw1.out.below hb)
      have Ow1w2 := hide (own_below Ow1.out hb)
      clear ho hb hrd hn y1 y2 y3
      go_wp2_with (at_builtin; (refine wpList_append_rd _ rfl (.tmp 51) (.tmp 54) 28 rfl wr.heap.size 5 i0 _ 1 1 Try.underlying28 hi0 hz0 hz1 hz2 rfl (by omega) _ _ _ rfl Ow1w2.out A2 x2 c2 _ rfl (by rw [List.length_map, Nat.mul_one]; exact HX2.out.symm) Rw2.out (u8s_one _) (by simp only [maxLen]; omega) (by omega) (by omega) ?_); intro v3 w3 ho hg hat; have O3 := hide ho; have B3 := hide (bl_grown B2.out hg (fun k h => by have := (Ow1w2.out.lt k h).1; omega)); have sw3 : w2.heap.size ≤ w3.heap.size := hg.size; have RBw3 := hide (Rd.grown RBw2.out hg (fun b hb h => by have h1 := (Ow1w2.out.lt b.block h.symm).1; have h2 := LB.out b hb; omega)); have REw3 := hide (Rd.grown REw2.out hg (fun b hb h => by have h1 := (Ow1w2.out.lt b.block h.symm).1; have h2 := LE.out b hb; omega)); clear ho hg hat)
      refine (ruv_any _ C w3 rfl (by omega)).mono ?_
      rintro e w4 ⟨v0, rfl, ho, hb⟩
      rw [← HX3.out] at ho
      have Ow4 := hide ho
      obtain ⟨y1, A4, c4, rfl, hn, hrd, y2, y3⟩ := own_form ho
      have Rw4 := hide hrd
      have B4 := hide (B3.out.trans (hb.mono (by omega)))
      have sw4 : w3.heap.size ≤ w4.heap.size := hb.size
      have RBw4 := hide (RBw3.out.below hb)
      have REw4 := hide (REw3.out.below hb)
      have O3w4 := hide (own_below O3.out hb)
      clear ho hb hrd hn y1 y2 y3
      go_wp2_with (at_builtin; (refine wpList_append_rd _ rfl (.tmp 56) (.tmp 59) 28 rfl wr.heap.size 5 i0 _ 1 1 Try.underlying28 hi0 hz0 hz1 hz2 rfl (by omega) _ _ _ rfl O3w4.out A4 x3 c4 _ rfl (by rw [List.length_map, Nat.mul_one]; exact HX3.out.symm) Rw4.out (u8s_one _) (by simp only [maxLen]; omega) (by omega) (by omega) ?_); intro v5 w5 ho hg hat; have O5 := hide ho; have B5 := hide (bl_grown B4.out hg (fun k h => by have := (O3w4.out.lt k h).1; omega)); have sw5 : w4.heap.size ≤ w5.heap.size := hg.size; have RBw5 := hide (Rd.grown RBw4.out hg (fun b hb h => by have h1 := (O3w4.out.lt b.block h.symm).1; have h2 := LB.out b hb; omega)); have REw5 := hide (Rd.grown REw4.out hg (fun b hb h => by have h1 := (O3w4.out.lt b.block h.symm).1; have h2 := LE.out b hb; omega)); clear ho hg hat)
      refine (pack_ref ba nb bc _ w5 HLB.out (by omega) RBw5.out).mono ?_
      rintro e w6 ⟨v0, rfl, ho, hb⟩
      rw [← HX4.out] at ho
      have Ow6 := hide ho
      obtain ⟨y1, A6, c6, rfl, hn, hrd, y2, y3⟩ := own_form ho
      have Rw6 := hide hrd
      have B6 := hide (B5.out.trans (hb.mono (by omega)))
      have sw6 : w5.heap.size ≤ w6.heap.size := hb.size
      have RBw6 := hide (RBw5.out.below hb)
      have REw6 := hide (REw5.out.below hb)
      have O5w6 := hide (own_below O5.out hb)
      clear ho hb hrd hn y1 y2 y3
      go_wp2_with (at_builtin; first | ((refine wpList_append_rd _ rfl (.tmp 60) (.tmp 62) 28 rfl wr.heap.size 5 i0 _ 1 1 Try.underlying28 hi0 hz0 hz1 hz2 rfl (by omega) _ _ _ rfl O5w6.out A6 x4 c6 _ rfl (by rw [List.length_map, Nat.mul_one]; exact HX4.out.symm) Rw6.out (u8s_one _) (by simp only [maxLen]; omega) (by omega) (by omega) ?_); intro v7 w7 ho hg hat; have O7 := hide ho; have B7 := hide (bl_grown B6.out hg (fun k h => by have := (O5w6.out.lt k h).1; omega)); have sw7 : w6.heap.size ≤ w7.heap.size := hg.size; have RBw7 := hide (Rd.grown RBw6.out hg (fun b hb h => by have h1 := (O5w6.out.lt b.block h.symm).1; have h2 := LB.out b hb; omega)); have REw7 := hide (Rd.grown REw6.out hg (fun b hb h => by have h1 := (O5w6.out.lt b.block h.symm).1; have h2 := LE.out b hb; omega)); clear ho hg hat) | ((refine wpList_append_rd _ rfl (.tmp 64) (.tmp 65) 28 rfl wr.heap.size 5 i0 _ 1 1 Try.underlying28 hi0 hz0 hz1 hz2 rfl (by omega) _ _ _ rfl O7.out ea en ec _ rfl (by rw [List.length_map, Nat.mul_one]; exact HLE.out.symm) REw7.out (u8s_one _) (by simp only [maxLen]; omega) (by omega) (by omega) ?_); intro v8 w8 ho hg hat; have O8 := hide ho; have B8 := hide (bl_grown B7.out hg (fun k h => by have := (O7.out.lt k h).1; omega)); have sw8 : w7.heap.size ≤ w8.heap.size := hg.size; have RBw8 := hide (Rd.grown RBw7.out hg (fun b hb h => by have h1 := (O7.out.lt b.block h.symm).1; have h2 := LB.out b hb; omega)); have REw8 := hide (Rd.grown REw7.out hg (fun b hb h => by have h1 := (O7.out.lt b.block h.symm).1; have h2 := LE.out b hb; omega)); clear ho hg hat))
      go_ret
      refine ⟨v8, rfl, ?_, B8.out⟩
      have ho := own_base O8.out hsz
      have e : (encM wd vs).length = x1 + x2 + x3 + x4 + en := by
        unfold encM
        rw [List.length_append, List.length_append, List.length_append, List.length_append, ← HN.out, ← HC.out, ← HX1.out, ← HX2.out, ← HX3.out, ← HX4.out, ← HLE.out]
      rw [e]
      unfold encM
      rw [← HN.out, ← HC.out]
      simpa only [List.map_append, List.append_assoc] using ho
end Go.Proofs.Ytchcaidcohgjbaa
