/- The walk of encode. -/
import Derived.Test.YtchcaidcohgjbaaKBeW
import Derived.Test.YtchcaidcohgjbaaWrW
namespace Go.Proofs.Ytchcaidcohgjbaa
open Go.RowKit
set_option linter.unusedVariables false
set_option linter.unusedSimpArgs false
theorem lowB_mod (v m : Nat) : ∀ n, n ≤ m → lowB (v % 2 ^ m) n = lowB v n
  | 0, _ => rfl
  | n + 1, h => by
    simp only [lowB]
    rw [lowB_mod v m n (by omega), ← Nat.testBit_eq_decide_div_mod_eq, ← Nat.testBit_eq_decide_div_mod_eq, Nat.testBit_mod_two_pow, decide_eq_true (show n < m by omega), Bool.true_and]
theorem u64_band (a b : Nat) (ha : a < 18446744073709551616) (hb : b < 18446744073709551616) : bits .and .u64 (a : Int) (b : Int) = ((a &&& b : Nat) : Int) := by
  have hx : a &&& b < 2 ^ 64 := Nat.and_lt_two_pow _ (by omega)
  have h : ∀ c : Nat, c < 18446744073709551616 → (BitVec.ofInt 64 (c : Int)).toNat = c := fun c hc => by
    rw [BitVec.ofInt_natCast, BitVec.toNat_ofNat]; exact Nat.mod_eq_of_lt (by omega)
  show IntKind.u64.wrap ((BitVec.ofInt 64 (a : Int) &&& BitVec.ofInt 64 (b : Int)).toNat : Int) = _
  rw [BitVec.toNat_and, h a ha, h b hb, IntKind.wrap_u64]
  omega
theorem mask_u64 (v n : Nat) (hv : v < 18446744073709551616) (hn : n ≤ 63) : bits .and .u64 (v : Int) (IntKind.u64.wrap (IntKind.u64.wrap ((2 : Int) ^ n) - 1)) = ((v % 2 ^ n : Nat) : Int) := by
  obtain ⟨p, hp⟩ : ∃ p, p = 2 ^ n := ⟨_, rfl⟩
  have h63 : p ≤ 2 ^ 63 := by rw [hp]; exact Nat.pow_le_pow_right (by decide) hn
  have h1 : 1 ≤ p := by rw [hp]; exact Nat.pow_pos (by decide)
  have e : ((2 : Int) ^ n) = (p : Int) := by rw [hp]; simp
  have e2 : IntKind.u64.wrap (IntKind.u64.wrap (p : Int) - 1) = ((p - 1 : Nat) : Int) := by rw [IntKind.wrap_u64, IntKind.wrap_u64]; omega
  rw [e, e2, u64_band v (p - 1) hv (by omega), hp, Nat.and_two_pow_sub_one_eq_mod]
theorem Rd.ch {w w' : World} {g : Nat} {r : Option Nat} {a : Option Addr} {xs : List Value} (h : Rd w a xs) (hc : Ch g r w w') (hne : ∀ b, a = some b → b.block ≠ g ∧ some b.block ≠ r) : Rd w' a xs := by
  rcases h with rfl | ⟨b, o, rfl, hb, hcl⟩
  · exact .inl rfl
  · exact .inr ⟨b, o, rfl, Nat.lt_of_lt_of_le hb hc.size, fun k v hv => (World.cell?_of_block (hc.block b hb (hne _ rfl).1 (hne _ rfl).2)).trans (hcl k v hv)⟩
/-- A slice apart from a Writer's blocks. -/
def Apart (w : World) (a : Option Addr) (g : Nat) (r : Option Nat) : Prop := ∀ b, a = some b → b.block ≠ g ∧ some b.block ≠ r ∧ b.block < w.heap.size
theorem wBits_mod (v n : Nat) (h : n ≤ 64) (hv : v < 2 ^ 64) : wBits (v % 2 ^ n) n = some (lowB v n) := by
  have hlt : v % 2 ^ n < 2 ^ n := Nat.mod_lt _ (Nat.pow_pos (by omega))
  have := (bl_le (v % 2 ^ n) n (Nat.lt_of_le_of_lt (Nat.mod_le _ _) hv)).2 hlt
  unfold wBits
  rw [if_pos ⟨by omega, by omega, by omega⟩]
  simp only [Int.toNat_natCast, lowB_mod v n n (Nat.le_refl _)]
set_option maxHeartbeats 1000000 in
set_option maxRecDepth 100000 in
theorem encode_any (a : Option Addr) (n cap : Nat) (vs : List Nat) (wd : Nat) (x : Int) (w : World) (h : IsV w a n vs) (hok : okV vs) (hx : x = wd) (hw : wd ≤ 31) :
    Calls Try.prog 23 #[.slice a n cap, .int .i64 x] w fun e w' => ∃ v, e = .returned v ∧ w'.ownsRow w.heap.size 5 1 v (encM wd vs).length ((encM wd vs).map u8v) ∧ Below w.heap.size w w' := by
  subst hx
  have HI := hide h
  have HN := hide h.1
  have HOK := hide hok
  have hn128 : n ≤ 128 := by rw [h.1]; exact hok.1
  clear h hok
  go_enter Try.func23, Try.ntmps23
  go_wp2_with fail
  refine (newwriter_any _).mono ?_
  rintro e w1 ⟨rfl, hws, hb1⟩
  have HWS := hide hws
  have HB1 := hide hb1
  clear hws hb1
  go_wp2_with fail
  go_loopw [6, 7, 8, 16] (fun ev c bf i wr => ∃ (k C G : Nat) (r : Option Nat) (ea : Option Addr) (en ec : Nat), ev = .slice ea en ec ∧ c = .int .i64 (C : Int) ∧ bf = .int .i64 ((k : Int) - G) ∧ i = .int .i64 (k : Int) ∧ k ≤ n ∧ Hid (WrS wr w.heap.size w.heap.size r (lowsB wd (vs.take k))) ∧ Hid (BRd wr ea (exB wd 1 (vs.take k)) ∧ Apart wr ea w.heap.size r) ∧ Hid (en = (exB wd 1 (vs.take k)).length) ∧ Hid (C = exN wd (vs.take k)) ∧ Hid (G = gapD wd 1 (vs.take k)) ∧ 1 ≤ G ∧ G ≤ k + 1 ∧ en ≤ 20 * k ∧ C ≤ k ∧ Hid (Below w.heap.size w wr)) (fun _ _ _ i _ => n - (intOf i).toNat)
  case atStart => exact ⟨0, 0, 1, none, none, 0, 0, rfl, rfl, rfl, rfl, Nat.zero_le _, HWS, hide ⟨.inl rfl, fun b h => by cases h⟩, hide rfl, hide rfl, hide rfl, Nat.le_refl _, Nat.le_refl _, Nat.le_refl _, Nat.le_refl _, HB1⟩
  case round =>
    obtain ⟨k, C, G, r, ea, en, ec, rfl, rfl, rfl, rfl, hk, HS, HR, HE, HC, HG, g1, g2, g3, g4, HB⟩ := hrel
    by_cases hlt : k < n
    · obtain ⟨b, o, v, rfl, hbl, hv, e0⟩ := (HI.out.below HB.out).at_ hlt
      have hkn : (k : Int) < (n : Int) := by omega
      have hv31 : v < 2 ^ 31 := HOK.out.2 v (List.mem_of_getElem? hv)
      have ht := take_at hv
      have HBE := hide (exB_snoc wd v (vs.take k) 1)
      have HCC := hide (exN_snoc wd v (vs.take k))
      have HGG := hide (gapD_snoc wd v (vs.take k) 1)
      have HLL := hide (lowsB_snoc wd v (vs.take k))
      rw [← ht] at HBE HCC HGG HLL
      rw [← HG.out] at HBE HGG
      rw [← HC.out] at HCC
      obtain ⟨q, hq⟩ : ∃ q, q = v / 2 ^ wd := ⟨_, rfl⟩
      rw [← hq] at HBE HCC HGG
      have hqv : q < 2 ^ 31 := by rw [hq]; exact Nat.lt_of_le_of_lt (Nat.div_le_self _ _) hv31
      have e1 : ((v : Int) / 2 ^ wd) = (q : Int) := by rw [hq]; simp
      have HQ := hide hq
      have em := mask_u64 v wd (by omega) (by omega)
      have hmod := wBits_mod v wd (by omega) (by omega)
      have HM := hide hmod
      have hLl : (lowsB wd (vs.take k)).length < 80000000 := by
        rw [lowsB_length, List.length_take]
        have : min k vs.length * wd ≤ 128 * 31 := Nat.mul_le_mul (by omega) hw
        omega
      have HL8 := hide hLl
      obtain ⟨m, hm⟩ : ∃ m, m = v % 2 ^ wd := ⟨_, rfl⟩
      have hm64 : m < 2 ^ 64 := by rw [hm]; exact Nat.lt_of_le_of_lt (Nat.mod_le _ _) (by omega)
      rw [← hm] at em HM
      have EM := hide em
      have hsz : w.heap.size ≤ wr.heap.size := HB.out.size
      have e1u : IntKind.u64.wrap (v : Int) = (v : Int) := by rw [IntKind.wrap_u64]; omega
      clear hv ht hlt hq em hm hmod hLl
      go_wp2_with fail
      rw [EM.out]
      refine (wbits_any w.heap.size w.heap.size r _ _ _ m wr rfl hm64 HS.out HL8.out hsz).mono ?_
      rintro e w2 ⟨rfl, hst⟩
      rw [HM.out] at hst ⊢
      obtain ⟨r2, hs2, hch, hr2⟩ := hst
      simp only [Option.getD_some] at hs2
      rw [← HLL.out] at hs2
      have HS2 := hide hs2
      have HCH := hide hch
      have HAP2 : Hid (Apart w2 ea w.heap.size r2) := hide fun b hb => by
        obtain ⟨a1, a2, a3⟩ := HR.out.2 b hb
        refine ⟨a1, ?_, Nat.lt_of_lt_of_le a3 hch.size⟩
        rcases hr2 with rfl | ⟨j, rfl, hj⟩
        · exact a2
        · intro e; injection e with e; omega
      have HR2 : Hid (BRd w2 ea (exB wd 1 (vs.take k))) := hide (Rd.ch HR.out.1 hch fun b hb => ⟨(HR.out.2 b hb).1, (HR.out.2 b hb).2.1⟩)
      have HB2 : Hid (Below w.heap.size w w2) := hide (HB.out.trans (hch.below (Nat.le_refl _) (fun k hk => (HS.out.lt.2.2 k hk).1) hsz))
      have hsz2 : wr.heap.size ≤ w2.heap.size := hch.size
      clear hs2 hch hr2 EM HM
      by_cases h0 : q = 0
      · have q0 : ¬ (0 : Int) < q := by omega
        have HBE2 := hide (show exB wd 1 (vs.take (k + 1)) = exB wd 1 (vs.take k) by rw [HBE.out, if_pos h0, List.append_nil])
        have HCC2 := hide (show exN wd (vs.take (k + 1)) = C by rw [HCC.out, if_pos h0])
        have HGG2 := hide (show gapD wd 1 (vs.take (k + 1)) = G + 1 by rw [HGG.out, if_pos h0])
        clear HBE HCC HGG h0
        simp only [cod, Option.isSome_some, if_true]
        go_wp2
        go_roundw
        case rel => exact ⟨k + 1, C, G + 1, r2, ea, en, ec, rfl, rfl, i64_eq (by omega), by go_num, by omega, HS2, hide (by rw [HBE2.out]; exact ⟨HR2.out, HAP2.out⟩), hide (by rw [HBE2.out]; exact HE.out), hide HCC2.out.symm, hide HGG2.out.symm, by omega, by omega, by omega, by omega, HB2⟩
        case measure => simp [intOf]; omega
      · have q0 : (0 : Int) < q := by omega
        have HBE2 := hide (show exB wd 1 (vs.take (k + 1)) = exB wd 1 (vs.take k) ++ uv G ++ uv q by rw [HBE.out, if_neg h0, List.append_assoc])
        have HCC2 := hide (show exN wd (vs.take (k + 1)) = C + 1 by rw [HCC.out, if_neg h0])
        have HGG2 := hide (show gapD wd 1 (vs.take (k + 1)) = 1 by rw [HGG.out, if_neg h0])
        clear HBE HCC HGG h0
        simp only [cod, Option.isSome_some, if_true]
        obtain ⟨x1, hx1⟩ : ∃ x, x = (uv G).length := ⟨_, rfl⟩
        obtain ⟨x2, hx2⟩ : ∃ x, x = (uv q).length := ⟨_, rfl⟩
        have l1 : x1 ≤ 10 := by rw [hx1]; exact (uv_le10 G).2
        have l2 : x2 ≤ 10 := by rw [hx2]; exact (uv_le10 q).2
        have HX1 := hide hx1
        have HX2 := hide hx2
        clear hx1 hx2
        go_wp2_with fail
        refine (putuv_any ea en ec _ _ G w2 (by omega) (by omega) HE.out (by omega) HR2.out).mono ?_
        rintro e w3 ⟨v3, rfl, ho3, hb3⟩
        rw [← HX1.out] at ho3
        obtain ⟨y1, A3, c3, rfl, hn3, hrd3, y2, y3⟩ := own_form ho3
        have HO3 := hide ho3
        have HB3 := hide hb3
        have HRD3 := hide hrd3
        have hx3 : ((exB wd 1 (vs.take k) ++ uv G).map u8v).length = en + x1 := by rw [List.length_map, List.length_append, ← HE.out, ← HX1.out]
        rw [List.length_map] at hx3
        have HX3 := hide hx3
        clear ho3 hb3 hrd3 hx3 hn3 y1 y2 y3
        have e1q : IntKind.u64.wrap (q : Int) = (q : Int) := by rw [IntKind.wrap_u64]; omega
        go_wp2_with fail
        refine (putuv_any A3 _ c3 _ _ q w3 rfl (by omega) HX3.out.symm (by omega) HRD3.out).mono ?_
        rintro e w4 ⟨v4, rfl, ho4, hb4⟩
        rw [← HX2.out] at ho4
        have HBK := hide (fun k h => ho4.lt k h)
        obtain ⟨y1, A4, c4, rfl, hn4, hrd4, y2, y3⟩ := own_form ho4
        have HB4 := hide hb4
        have HRD4 := hide hrd4
        have HS4 := hide ((HS2.out.below HB3.out).below hb4)
        clear ho4 hb4 hrd4 hn4 y1 y2 y3
        go_wp2
        go_roundw
        case rel =>
          refine ⟨k + 1, C + 1, 1, r2, A4, _, c4, rfl, by go_num, i64_eq (by omega), by go_num, by omega, HS4, hide ⟨by rw [HBE2.out]; exact HRD4.out, ?_⟩, hide ?_, hide HCC2.out.symm, hide HGG2.out.symm, by omega, by omega, by omega, by omega, hide (HB2.out.trans ((bl_trans HB3.out HB4.out).mono (by omega)))⟩
          · intro b hb
            subst hb
            have h4 := HBK.out b.block rfl
            have h3 := HB3.out.size
            have hg := HS2.out.lt
            refine ⟨by omega, fun e => ?_, h4.2⟩
            have := (hg.2.2 _ e.symm).2
            omega
          · rw [HBE2.out, List.length_append, HX3.out, ← HX2.out]
        case measure => simp [intOf]; omega
    · obtain rfl : k = n := by omega
      have hall : vs.take k = vs := List.take_of_length_le (by rw [← HN.out]; exact Nat.le_refl _)
      rw [hall] at HS HR HE HC HG
      have hsz : w.heap.size ≤ wr.heap.size := HB.out.size
      have HLN := hide (show (lowsB wd vs).length < 100000000 by
        rw [lowsB_length, ← HN.out]
        have : k * wd ≤ 128 * 31 := Nat.mul_le_mul hn128 hw
        omega)
      have HLP := hide (show (packL (lowsB wd vs)).length ≤ 1000000 by
        rw [packL_length, lowsB_length, ← HN.out]
        have : k * wd ≤ 128 * 31 := Nat.mul_le_mul hn128 hw
        unfold nby
        omega)
      obtain ⟨x1, hx1⟩ : ∃ x, x = (uv k).length := ⟨_, rfl⟩
      obtain ⟨x2, hx2⟩ : ∃ x, x = (uv wd).length := ⟨_, rfl⟩
      obtain ⟨x3, hx3⟩ : ∃ x, x = (uv C).length := ⟨_, rfl⟩
      obtain ⟨x4, hx4⟩ : ∃ x, x = (packL (lowsB wd vs)).length := ⟨_, rfl⟩
      have l1 : x1 ≤ 10 := by rw [hx1]; exact (uv_le10 k).2
      have l2 : x2 ≤ 10 := by rw [hx2]; exact (uv_le10 wd).2
      have l3 : x3 ≤ 10 := by rw [hx3]; exact (uv_le10 C).2
      have l4 : x4 ≤ 1000000 := by rw [hx4]; exact HLP.out
      have HX1 := hide hx1
      have HX2 := hide hx2
      have HX3 := hide hx3
      have HX4 := hide hx4
      have e1k : IntKind.u64.wrap (k : Int) = (k : Int) := by rw [IntKind.wrap_u64]; omega
      have e1w : IntKind.u64.wrap (wd : Int) = (wd : Int) := by rw [IntKind.wrap_u64]; omega
      have e1c : IntKind.u64.wrap (C : Int) = (C : Int) := by rw [IntKind.wrap_u64]; omega
      clear hx1 hx2 hx3 hx4 hall
      obtain ⟨i0, hi0, hz0, hz1, hz2⟩ := info_parts info_u8
      go_wp2_with fail
      refine (putuv_any none 0 0 _ [] k wr rfl (by omega) rfl (by omega) (.inl rfl)).mono ?_
      rintro e w1 ⟨v1, rfl, ho1, hb1⟩
      rw [← HX1.out, Nat.zero_add, List.nil_append] at ho1
      obtain ⟨y1, A1, c1, rfl, hn1, hrd1, y2, y3⟩ := own_form ho1
      have HRD1 := hide hrd1
      have HB1' := hide hb1
      clear ho1 hb1 hrd1 hn1 y1 y2 y3
      go_wp2_with fail
      refine (putuv_any A1 x1 c1 _ _ wd w1 rfl (by omega) HX1.out (by omega) HRD1.out).mono ?_
      rintro e w2 ⟨v2, rfl, ho2, hb2⟩
      rw [← HX2.out] at ho2
      obtain ⟨y1, A2, c2, rfl, hn2, hrd2, y2, y3⟩ := own_form ho2
      have HRD2 := hide hrd2
      have HB2 := hide hb2
      clear ho2 hb2 hrd2 hn2 y1 y2 y3
      go_wp2_with fail
      refine (putuv_any A2 _ c2 _ _ C w2 rfl (by omega) (by rw [List.length_append, ← HX1.out, ← HX2.out]) (by omega) HRD2.out).mono ?_
      rintro e w3 ⟨v3, rfl, ho3, hb3⟩
      rw [← HX3.out] at ho3
      have HO3 := hide ho3
      obtain ⟨y1, A3, c3, rfl, hn3, hrd3, y2, y3⟩ := own_form ho3
      have HB3 := hide hb3
      have HS3 := hide (((HS.out.below HB1'.out).below HB2.out).below HB3.out)
      clear ho3 hb3 hrd3 hn3 y1 y2 y3
      have s1 : wr.heap.size ≤ w1.heap.size := HB1'.out.size
      have s2 : w1.heap.size ≤ w2.heap.size := HB2.out.size
      have s3 : w2.heap.size ≤ w3.heap.size := HB3.out.size
      go_wp2_with fail
      refine (wbytes_any w.heap.size w.heap.size r _ w3 HS3.out HLN.out (by omega)).mono ?_
      rintro e w4 ⟨v4, rfl, ho4, hb4⟩
      rw [← HX4.out] at ho4
      obtain ⟨y1, A4, c4, rfl, hn4, hrd4, y2, y3⟩ := own_form ho4
      have HRD4 := hide hrd4
      have HB4 := hide hb4
      have HO34 := hide (own_below HO3.out hb4)
      have s4 : w3.heap.size ≤ w4.heap.size := hb4.size
      clear ho4 hb4 hrd4 hn4 y1 y2 y3
      have HR4 := hide ((((Rd.below HR.out.1 HB1'.out).below HB2.out).below HB3.out).below HB4.out)
      have HB4w : Hid (Below w.heap.size w w4) := hide (HB.out.trans ((bl_trans (bl_trans (bl_trans HB1'.out HB2.out) HB3.out) HB4.out).mono hsz))
      have HAP : Hid (∀ b, ea = some b → b.block < wr.heap.size) := hide fun b hb => (HR.out.2 b hb).2.2
      go_wp2_with (at_builtin; first | ((refine wpList_append_rd _ rfl (.tmp 61) (.tmp 63) 28 rfl w2.heap.size 5 i0 _ 1 1 Try.underlying28 hi0 hz0 hz1 hz2 rfl (by omega) _ _ _ rfl HO34.out A4 x4 c4 _ rfl (by rw [List.length_map, Nat.mul_one]; exact HX4.out.symm) HRD4.out (u8s_one _) (by simp only [maxLen]; omega) (by omega) (by omega) ?_); intro v5 w5 ho5 hg5 hat5; have HO5 := hide ho5; have HR5 := hide (Rd.grown HR4.out hg5 (fun b hb h => by have h1 := HO34.out.lt b.block h.symm; have h2 := HAP.out b hb; omega)); have HB5 := hide (bl_grown HB4w.out hg5 (fun k h => by have h1 := HO34.out.lt k h; omega)); have s5 : w4.heap.size ≤ w5.heap.size := hg5.size; clear ho5 hg5 hat5) | (go_loud (refine wpList_append_rd _ rfl (.tmp 64) (.tmp 65) 28 rfl w2.heap.size 5 i0 _ 1 1 Try.underlying28 hi0 hz0 hz1 hz2 rfl (by omega) _ _ _ rfl HO5.out ea en ec _ rfl (by rw [List.length_map, Nat.mul_one]; exact HE.out.symm) HR5.out (u8s_one _) (by simp only [maxLen]; omega) (by omega) (by omega) ?_); intro v6 w6 ho6 hg6 hat6; have HO6 := hide ho6; have HB6 := hide (bl_grown HB5.out hg6 (fun k h => by have h1 := HO5.out.lt k h; omega)); clear ho6 hg6 hat6))
      go_ret
      refine ⟨v6, rfl, ?_, HB6.out⟩
      have ho := own_base HO6.out (show w.heap.size ≤ w2.heap.size by omega)
      have e : (encM wd vs).length = x1 + x2 + x3 + x4 + en := by
        unfold encM
        rw [List.length_append, List.length_append, List.length_append, List.length_append, ← HN.out, ← HC.out, ← HX1.out, ← HX2.out, ← HX3.out, ← HX4.out, ← HE.out]
      rw [e]
      unfold encM
      rw [← HN.out, ← HC.out]
      simpa only [List.map_append, List.append_assoc] using ho
end Go.Proofs.Ytchcaidcohgjbaa
