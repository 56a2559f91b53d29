/- The walk of the reference's Encode. -/
import Derived.Test.YtnflffhmnbjelaaQDeW
import Derived.Test.YtnflffhmnbjelaaRWriteW
import Derived.Test.YtnflffhmnbjelaaPackW
namespace Go.Proofs.Ytnflffhmnbjelaa
open Go.RowKit
set_option linter.unusedVariables false
set_option linter.unusedSimpArgs false
theorem own_keep2 {w w' : World} {base base' size size' n n' : Nat} {e e' : TypeId} {v v' : Value} {xs xs' : List Value} (h : w.ownsRow base e size v n xs) (h' : w.ownsRow base' e' size' v' n' xs') (hne : e ≠ e') (hg : w.grownBy w' v'.ownBlock) : w'.ownsRow base e size v n xs :=
  ownG_blocks h (fun k hk => hg.block k (h.lt k hk).2 (fun q => own_two h h' hne k hk q.symm))
def GR (W : World) (base : Nat) (e : TypeId) (i : Nat) (s : Value) (n : Nat) (xs : List Value) : (Nat → Bool) → World → Prop := fun L w => W.grownBy w s.ownBlock ∧ (L i = false → w.ownsRow base e 1 s n xs)
def ER (i : Nat) (r : Option Nat) : Nat → World → World → Prop := fun j w w' => w.grownBy w' r ∧ (j ≠ i → Below w.heap.size w w')
theorem GR.same {W : World} {base n : Nat} {e : TypeId} {i : Nat} {s : Value} {xs : List Value} {L : Nat → Bool} {w w' : World} {j : Nat} (h : GR W base e i s n xs L w) (hb : Below w.heap.size w w') (hi : j ≠ i) : GR W base e i s n xs (upL L j) w' := by
  refine ⟨gb_below h.1 hb, fun hL => ?_⟩
  have h3 : L i = false := by
    unfold upL at hL
    rwa [if_neg (fun e => hi e.symm)] at hL
  exact own_below (h.2 h3) hb
theorem ER.of {i : Nat} {r : Option Nat} {j : Nat} {w w' : World} (hb : Below w.heap.size w w') : ER i r j w w' := ⟨World.grownBy.but (below_grow hb) r, fun _ => hb⟩
/-- A row of its own made since. -/
def PN (base : Nat) (e : TypeId) (n : Nat) (xs : List Value) : Value → World → Prop := fun v w => w.ownsRow base e 1 v n xs
theorem stabPN {m : List Nat} {i : Nat} {r : Option Nat} {base n j : Nat} {e : TypeId} {xs : List Value} (hr : ∀ k, r = some k → k < base) : StabF m (ER i r) j (.p (PN base e n xs)) := fun _ _ _ u w w' hE h =>
  ownG_blocks (show w.ownsRow base e 1 u n xs from h) (fun k hk => hE.1.block k (World.ownsRow.lt h k hk).2 (fun q => by have := hr k q.symm; have := (World.ownsRow.lt (show w.ownsRow base e 1 u n xs from h) k hk).1; omega))
theorem stabPO2 {m : List Nat} {i : Nat} {r : Option Nat} {base n j : Nat} {e : TypeId} {xs : List Value} (hi : j = i ∨ (m.getD j 0).testBit i = true) : StabF m (ER i r) j (.p (PN base e n xs)) := fun q hq hm u w w' hE h => by
  have h3 : q ≠ i := by
    rintro rfl
    rcases hi with rfl | hi
    · exact hq rfl
    · rw [hi] at hm; cases hm
  exact own_below (show w.ownsRow base e 1 u n xs from h) (hE.2 h3)
/-- The starts of the gaps. -/
def stL (l : List Nat) (k : Nat) : List Value := (List.range k).map fun i => nv (posQ l i)
theorem stL_succ (l : List Nat) (k : Nat) : stL l (k + 1) = stL l k ++ [nv (posQ l k)] := by simp [stL, List.range_succ]
theorem stL_length (l : List Nat) (k : Nat) : (stL l k).length = k := by simp [stL]
theorem stL_get (l : List Nat) (k i : Nat) (h : i < k) : (stL l k)[i]? = some (nv (posQ l i)) := by simp [stL, h]
set_option maxHeartbeats 4000000 in
set_option maxRecDepth 100000 in
theorem rencode_any (a : Option Addr) (n cap : Nat) (z : List Int) (w : World) (h : IsI w a n z) (hck : chkL z = 0) :
    Calls Try.prog 22 #[.slice a n cap] w fun e w' => ∃ v m, e = .returned v ∧ m ≤ 200000 ∧ w'.ownsRow w.heap.size 5 1 v m ((encQ (natsOf z)).map u8v) ∧ Below w.heap.size w w' := by
  have HI := hide h
  have HN := hide h.1
  have HCK := hide hck
  have hn4 : n ≤ 4096 := by rw [h.1]; exact ((chkL_zero z).1 hck).1
  obtain ⟨l, hl⟩ : ∃ l, l = natsOf z := ⟨_, rfl⟩
  have hok : okQ l := by rw [hl]; exact okQ_of hck
  have HOK := hide hok
  have hln : l.length = n := by rw [hl, natsOf_length, h.1]
  have HLN := hide hln
  have HL := hide hl
  have HPB := hide (fun k (hk : k ≤ n) => show posQ l k ≤ 819200 by have := posQ_le hok k (by omega); omega)
  rw [← hl]
  obtain ⟨i0, hi0, hz0, hz1, hz2⟩ := info_parts info_u8
  obtain ⟨i2, hi2, hy0, hy1, hy2⟩ := info_parts info_int
  obtain ⟨i3, hi3, hx0, hx1, hx2⟩ := info_parts info_bool
  have HB0 := hide (bl_refl w)
  have HO30 := hide (show w.ownsRow w.heap.size 4 1 (.slice none 0 0) (posQ l 0) ((upQ l 0).map Value.bool) from ⟨rfl, .inl ⟨rfl, rfl⟩⟩)
  have HO40 := hide (show w.ownsRow w.heap.size 3 1 (.slice none 0 0) 0 (stL l 0) from ⟨rfl, .inl ⟨rfl, rfl⟩⟩)
  clear h hck hl hok hln
  go_enter Try.func22, Try.ntmps22
  go_wp2_with fail
  go_loopw [3, 4, 5, 14] (fun bv sv lv kv wr => ∃ k : Nat, kv = .int .i64 (k : Int) ∧ lv = .int .i64 ((befQ l k : Int) - 1) ∧ k ≤ n ∧ Hid (wr.ownsRow w.heap.size 4 1 bv (posQ l k) ((upQ l k).map Value.bool)) ∧ Hid (wr.ownsRow w.heap.size 3 1 sv k (stL l k)) ∧ Hid (Below w.heap.size w wr)) (fun _ _ _ kv _ => n - (intOf kv).toNat)
  case atStart => exact ⟨0, rfl, rfl, by omega, HO30, HO40, HB0⟩
  case round =>
    obtain ⟨k, rfl, rfl, hk, HO3, HO4, HB⟩ := hrel
    by_cases hlt : k < n
    · obtain ⟨b, o, x, rfl, hbl, hx, e0⟩ := (HI.out.below HB.out).at_ hlt
      have hkn : (k : Int) < (n : Int) := by omega
      obtain ⟨y, rfl, hy⟩ := natsOf_at HCK.out hx
      rw [← HL.out] at hy
      obtain ⟨g1, g2, g3⟩ := gapQ_ok HOK.out hy
      have hy31 : y < 2147483648 := HOK.out.2 y (List.mem_of_getElem? hy)
      obtain ⟨gq, hgq⟩ : ∃ gq, gq = gapQ l k := ⟨_, rfl⟩
      obtain ⟨bf, hbf⟩ : ∃ bf, bf = befQ l k := ⟨_, rfl⟩
      obtain ⟨pq, hpq⟩ : ∃ pq, pq = posQ l k := ⟨_, rfl⟩
      have hpb := HPB.out k hk
      have hpb1 := HPB.out (k + 1) (by omega)
      have hps : posQ l (k + 1) = pq + (delB gq).length := by rw [hpq, hgq]; unfold posQ; rw [upQ_succ, List.length_append]
      have hdl := delB_len gq (by omega)
      have HGQ := hide hgq
      have HBF := hide hbf
      have HPQ := hide hpq
      have HY := hide hy
      have HPS := hide hps
      have HBS := hide (befQ_succ hy)
      rw [← hgq] at g1 g2 g3
      rw [← hbf] at g3 ⊢
      rw [← hpq] at HO3 hpb
      have egq : (y : Int) - ((bf : Int) - 1) = (gq : Int) := by omega
      have ewq : IntKind.u64.wrap (gq : Int) = (gq : Int) := by rw [IntKind.wrap_u64]; omega
      obtain ⟨-, A3, c3, rfl, hc3, -, -, -⟩ := own_form HO3.out
      clear hx hy hgq hbf hpq hps hlt g3 hbl hc3
      go_wp2_with (at_builtin; go_loud (refine wpList_append_rd _ rfl (.tmp 18) (.tmp 21) 22 rfl w.heap.size 3 i2 _ 1 8 Try.underlying22 hi2 hy0 hy1 hy2 rfl (by omega) _ _ _ rfl (own_below HO4.out (bl_alloc (bl_refl wr) _)) _ 1 _ [nv pq] rfl rfl (rd_lit wr _ _ _) (by intro u hu; simp at hu; subst hu; rfl) (by simp only [maxLen]; omega) (by omega) (by have := HB.out.size; simp; omega) ?_); intro v6 w6 ho6 hg6 hat6)
      have HO3a := hide (own_keep2 (own_below HO3.out (bl_alloc (bl_refl wr) (.cells #[.int .i64 (pq : Int)] 3))) (own_below HO4.out (bl_alloc (bl_refl wr) (.cells #[.int .i64 (pq : Int)] 3))) (by decide) hg6)
      have HO4a := hide (show w6.ownsRow w.heap.size 3 1 v6 (k + 1) (stL l (k + 1)) by rw [stL_succ, ← HPQ.out]; exact ho6)
      have HB6 := hide (bl_grown (bl_alloc HB.out (.cells #[.int .i64 (pq : Int)] 3)) hg6 (fun j hj => (HO4.out.lt j hj).1))
      clear ho6 hg6 hat6
      refine (write_ref 3 (gq : Int) 0 gq w6 rfl (by omega)).mono ?_
      rintro e w7 ⟨hres, hb7⟩
      have hw : wCall 3 gq 0 = some (delB gq) := by unfold wCall; rw [if_neg (by decide), if_neg (by decide), if_neg (by decide)]; exact wDelta_del gq g1
      rw [hw] at hres
      obtain ⟨r7, rfl, ho7⟩ := hres
      obtain ⟨hd1, A7, c7, rfl, hd2, hr7, hd3, hd4⟩ := own_form ho7
      have HR7 := hide hr7
      have HO3b := hide (own_below HO3a.out hb7)
      have HO4b := hide (own_below HO4a.out hb7)
      have HB7 := hide (HB6.out.trans (hb7.mono HB6.out.size))
      obtain ⟨dl, hdle⟩ : ∃ dl, dl = (delB gq).length := ⟨_, rfl⟩
      rw [← hdle] at hdl ⊢
      have HDL := hide hdle
      clear hd1 hd2 hd3 hd4 hr7 ho7 hb7 hw hdle
      go_wp2_with (at_builtin; go_loud (refine wpList_append_rd _ rfl (.tmp 32) (.tmp 33) 70 rfl w.heap.size 4 i3 _ 1 1 Try.underlying70 hi3 hx0 hx1 hx2 rfl (by omega) _ _ _ rfl HO3b.out A7 dl _ ((delB gq).map Value.bool) rfl (by rw [List.length_map, Nat.mul_one]; exact HDL.out.symm) HR7.out (bools_one _) (by simp only [maxLen]; omega) (by omega) HB7.out.size ?_); intro v8 w8 ho8 hg8 hat8)
      have HO3c := hide (show w8.ownsRow w.heap.size 4 1 v8 (posQ l (k + 1)) ((upQ l (k + 1)).map Value.bool) by
        rw [HPS.out, upQ_succ, ← HGQ.out, List.map_append, ← HDL.out]; exact ho8)
      have HO4c := hide (own_keep2 HO4b.out HO3b.out (by decide) hg8)
      have HB8 := hide (bl_grown HB7.out hg8 (fun j hj => (HO3b.out.lt j hj).1))
      clear ho8 hg8 hat8
      go_roundw
      case rel => exact ⟨k + 1, by go_num, i64_eq (by rw [HBS.out]; omega), by omega, HO3c, HO4c, HB8⟩
      case measure => simp [intOf]; omega
    · obtain rfl : k = n := by omega
      have hki : ¬ (k : Int) < (k : Int) := by omega
      obtain ⟨-, A3, c3, rfl, hc3, -, -, -⟩ := own_form HO3.out
      obtain ⟨-, A4, c4, rfl, hc4, -, -, -⟩ := own_form HO4.out
      obtain ⟨bt, hbt⟩ : ∃ bt, bt = posQ l k := ⟨_, rfl⟩
      have hbt8 : bt ≤ 819200 := by rw [hbt]; exact HPB.out k (Nat.le_refl _)
      have HBT := hide hbt
      rw [← hbt] at HO3 hc3 ⊢
      have ewk : IntKind.u64.wrap (k : Int) = (k : Int) := by rw [IntKind.wrap_u64]; omega
      have ewb : IntKind.u64.wrap (bt : Int) = (bt : Int) := by rw [IntKind.wrap_u64]; omega
      clear hbt hlt hc4
      go_wp2_with fail
      refine (ruv_any (k : Int) k wr rfl (by omega)).mono ?_
      rintro e w2 ⟨r2, rfl, ho2, hb2⟩
      have HB2 := hide (HB.out.trans (hb2.mono HB.out.size))
      have HO2 := hide (own_base ho2 HB.out.size)
      have HO42 := hide (own_below HO4.out hb2)
      have HO32 := hide (own_below HO3.out hb2)
      obtain ⟨-, A2, c2, rfl, -, -, -, -⟩ := own_form ho2
      have hu1 := uv_len k
      clear ho2 hb2
      go_wp2_with fail
      refine (ruv_any (bt : Int) bt w2 rfl (by omega)).mono ?_
      rintro e w3 ⟨r3, rfl, ho3, hb3⟩
      have HB3 := hide (HB2.out.trans (hb3.mono HB2.out.size))
      have HO23 := hide (own_below HO2.out hb3)
      have HO43 := hide (own_below HO42.out hb3)
      have HO33 := hide (own_below HO32.out hb3)
      obtain ⟨hq1, A5, c5, rfl, -, hr5, -, -⟩ := own_form ho3
      have HR5 := hide hr5
      have HQ5 := hide hq1
      have hu2 := uv_len bt
      obtain ⟨u1, hu1e⟩ : ∃ u1, u1 = (uv k).length := ⟨_, rfl⟩
      obtain ⟨u2, hu2e⟩ : ∃ u2, u2 = (uv bt).length := ⟨_, rfl⟩
      rw [← hu1e] at hu1 HO23 ⊢
      rw [← hu2e] at hu2 HQ5 ⊢
      clear ho3 hb3 hr5 hq1 hu1e hu2e
      go_wp2_with (at_builtin; go_loud (refine wpList_append_rd _ rfl (.tmp 40) (.tmp 44) 42 rfl w.heap.size 5 i0 _ 1 1 Try.underlying42 hi0 hz0 hz1 hz2 rfl (by omega) _ _ _ rfl HO23.out A5 u2 _ ((uv bt).map u8v) rfl (by rw [Nat.mul_one]; exact HQ5.out.symm) HR5.out (u8s_one _) (by simp only [maxLen]; omega) (by omega) HB3.out.size ?_); intro v4 w4 ho4 hg4 hat4)
      have HO34 := hide (own_keep2 HO33.out HO23.out (by decide) hg4)
      have HO44 := hide (own_keep2 HO43.out HO23.out (by decide) hg4)
      have HB4 := hide (bl_grown HB3.out hg4 (fun j hj => (HO23.out.lt j hj).1))
      have HO24 := hide ho4
      clear ho4 hg4 hat4
      refine (pack_ref A3 bt c3 (upQ l k) w4 (by rw [HBT.out]; rfl) (by omega) (own_form HO34.out |> fun h => by
        obtain ⟨-, A', c', e', -, hr, -, -⟩ := h
        rw [(Value.slice.inj e').1]; exact hr)).mono ?_
      rintro e w5 ⟨r5, rfl, ho5, hb5⟩
      have HB5 := hide (HB4.out.trans (hb5.mono HB4.out.size))
      have HO25 := hide (own_below HO24.out hb5)
      have HO45 := hide (own_below HO44.out hb5)
      obtain ⟨hq1, A6, c6, rfl, -, hr6, -, -⟩ := own_form ho5
      have HR6 := hide hr6
      have HQ6 := hide hq1
      obtain ⟨u3, hu3e⟩ : ∃ u3, u3 = (packL (upQ l k)).length := ⟨_, rfl⟩
      have hu3 : u3 ≤ 110000 := by
        rw [hu3e, packL_length]
        have := HBT.out
        unfold nby
        unfold posQ at this
        omega
      rw [← hu3e] at HQ6 ⊢
      clear ho5 hb5 hr6 hq1 hu3e
      go_wp2_with (at_builtin; go_loud (refine wpList_append_rd _ rfl (.tmp 46) (.tmp 48) 42 rfl w.heap.size 5 i0 _ 1 1 Try.underlying42 hi0 hz0 hz1 hz2 rfl (by omega) _ _ _ rfl HO25.out A6 u3 _ ((packL (upQ l k)).map u8v) rfl (by rw [Nat.mul_one]; exact HQ6.out.symm) HR6.out (u8s_one _) (by simp only [maxLen]; omega) (by omega) HB5.out.size ?_); intro v6 w6 ho6 hg6 hat6)
      have HO46 := hide (own_keep2 HO45.out HO25.out (by decide) hg6)
      have HB6 := hide (bl_grown HB5.out hg6 (fun j hj => (HO25.out.lt j hj).1))
      have HO6 : Hid (∃ m, m ≤ 120000 + 20 * 0 ∧ w6.ownsRow w.heap.size 5 1 v6 m ((heP l ++ skBs l 0).map u8v)) := hide ⟨u1 + u2 + u3, by omega, by
        have e : heP l ++ skBs l 0 = (uv k ++ uv bt) ++ packL (upQ l k) := by
          unfold heP skBs
          rw [HLN.out, HBT.out]; simp
        rw [e, List.map_append, List.map_append]
        exact ho6⟩
      clear ho6 hg6 hat6 hu1 hu2 hu3
      obtain ⟨ks, hks⟩ : ∃ ks, ks = (k + 15) / 16 := ⟨_, rfl⟩
      have HKS := hide hks
      clear hks
      go_wp2_with fail
      go_loopw [10, 11] (fun bv iv' wr => ∃ j : Nat, iv' = .int .i64 ((16 * (j + 1) : Nat) : Int) ∧ j ≤ ks - 1 ∧ Hid (∃ m, m ≤ 120000 + 20 * j ∧ wr.ownsRow w.heap.size 5 1 bv m ((heP l ++ skBs l j).map u8v)) ∧ Hid (wr.ownsRow w.heap.size 3 1 (.slice A4 k c4) k (stL l k)) ∧ Hid (Below w.heap.size w wr)) (fun _ iv' _ => 16 * ks + 16 - (intOf iv').toNat)
      case atStart => exact ⟨0, rfl, by omega, HO6, HO46, HB6⟩
      case round =>
        obtain ⟨j, rfl, hj, HO, HS, HB'⟩ := hrel
        obtain ⟨mo, hmo, ho⟩ := HO.out
        have hks1 : ks ≤ 320 := by have := HKS.out; omega
        have hj3 : j ≤ 320 := by omega
        have hmo2 : mo ≤ 130000 := by omega
        obtain ⟨i1, hi1⟩ : ∃ i1, i1 = 16 * (j + 1) := ⟨_, rfl⟩
        obtain ⟨i00, hi00⟩ : ∃ i00, i00 = 16 * j := ⟨_, rfl⟩
        have ei : (i1 : Int) - 16 = (i00 : Int) := by omega
        have HI1 := hide hi1
        have HI0 := hide hi00
        have hi5 : i1 ≤ 6000 := by omega
        rw [← hi1]
        by_cases hlt : i1 < k
        · have hlti : (i1 : Int) < (k : Int) := by omega
          have hlt0 : (i00 : Int) < (k : Int) := by omega
          have hltn0 : i00 < k := by omega
          obtain ⟨b1, o1, x1, rfl, hbl, hx1, -⟩ := HI.out.at_ hlt
          obtain ⟨b0, o0, x0, q, -, hx0, -⟩ := HI.out.at_ hltn0
          injection q with q
          injection q with q1 q2
          subst q1 q2
          obtain ⟨a1, rfl, hy1⟩ := natsOf_at HCK.out hx1
          obtain ⟨a0, rfl, hy0⟩ := natsOf_at HCK.out hx0
          rw [← HL.out] at hy1 hy0
          obtain ⟨g, sc, hsv, hgs⟩ := own_some HS.out (by omega)
          obtain rfl := (Value.slice.inj hsv).1
          obtain rfl := (Value.slice.inj hsv).2.2
          obtain ⟨p1, hp1⟩ : ∃ p1, p1 = posQ l i1 := ⟨_, rfl⟩
          obtain ⟨p0, hp0⟩ : ∃ p0, p0 = posQ l i00 := ⟨_, rfl⟩
          have HCEL := hide (fun (wx : World) (hg : wr.grownBy wx u10.ownBlock) => show wx.cell? ⟨b1, o1 + i1, none⟩ = some (.int .i64 (a1 : Int)) ∧ wx.cell? ⟨b1, o1 + i00, none⟩ = some (.int .i64 (a0 : Int)) ∧ wx.cell? ⟨g, i1, none⟩ = some (.int .i64 (p1 : Int)) ∧ wx.cell? ⟨g, i00, none⟩ = some (.int .i64 (p0 : Int)) by
            have hb : Below w.heap.size w wx := bl_grown HB'.out hg (fun q hq => (ho.lt q hq).1)
            have hi := HI.out.below hb
            have hs := own_keep2 HS.out ho (by decide) hg
            obtain ⟨-, A', c', hA, -, hr, -, -⟩ := own_form hs
            rw [← (Value.slice.inj hA).1] at hr
            obtain ⟨b', o', e', -, q1⟩ := hr.at_ (stL_get l k i1 hlt)
            obtain ⟨b'', o'', e'', -, q0⟩ := hr.at_ (stL_get l k i00 hltn0)
            injection e' with e'
            injection e' with e1 e2
            subst e1 e2
            injection e'' with e''
            injection e'' with e1 e2
            subst e1 e2
            rw [Nat.zero_add, ← hp1] at q1
            rw [Nat.zero_add, ← hp0] at q0
            refine ⟨?_, ?_, q1, q0⟩
            · obtain ⟨b', o', x', e', -, hx', ee⟩ := hi.at_ hlt
              injection e' with e'
              injection e' with e1 e2
              subst e1 e2
              rw [hx1] at hx'
              injection hx' with hx'
              rw [hx']; exact ee
            · obtain ⟨b', o', x', e', -, hx', ee⟩ := hi.at_ hltn0
              injection e' with e'
              injection e' with e1 e2
              subst e1 e2
              rw [hx0] at hx'
              injection hx' with hx'
              rw [hx']; exact ee)
          have ha : a0 ≤ a1 ∧ a1 < 2147483648 := ⟨Nat.le_of_lt (okQ_lt HOK.out hy0 hy1 (by omega)), HOK.out.2 a1 (List.mem_of_getElem? hy1)⟩
          have hp : p0 ≤ p1 ∧ p1 ≤ 819200 := by
            rw [hp0, hp1]
            exact ⟨posQ_mono l _ _ (by omega), HPB.out i1 (by omega)⟩
          obtain ⟨da, hda⟩ : ∃ da, da = a1 - a0 := ⟨_, rfl⟩
          obtain ⟨dp, hdp⟩ : ∃ dp, dp = p1 - p0 := ⟨_, rfl⟩
          have HE := hide (show skB l (j + 1) = uv da ++ uv dp by unfold skB; rw [Nat.add_sub_cancel, ← hi1, ← hi00, getD_at hy1, getD_at hy0, ← hp1, ← hp0, ← hda, ← hdp])
          have eda : (a1 : Int) - (a0 : Int) = (da : Int) := by omega
          have edp : (p1 : Int) - (p0 : Int) = (dp : Int) := by omega
          have hda2 : da < 2147483648 := by omega
          have hdp2 : dp ≤ 819200 := by omega
          have ewa : IntKind.u64.wrap (da : Int) = (da : Int) := by rw [IntKind.wrap_u64]; omega
          have ewp : IntKind.u64.wrap (dp : Int) = (dp : Int) := by rw [IntKind.wrap_u64]; omega
          have ewj : IntKind.i64.wrap (i00 : Int) = (i00 : Int) := by rw [IntKind.wrap_i64]; omega
          have ewda : IntKind.i64.wrap (da : Int) = (da : Int) := by rw [IntKind.wrap_i64]; omega
          have ewdp : IntKind.i64.wrap (dp : Int) = (dp : Int) := by rw [IntKind.wrap_i64]; omega
          have HHO := hide ho
          have hrb : ∀ q, u10.ownBlock = some q → q < wr.heap.size := fun q hq => (ho.lt q hq).2
          have HRB := hide hrb
          obtain ⟨ua, hua⟩ : ∃ ua, ua = (uv da).length := ⟨_, rfl⟩
          have hua2 : ua ≤ 10 := by have := uv_len da; omega
          have HUA := hide hua
          have hbs : w.heap.size ≤ wr.heap.size := HB'.out.size
          obtain ⟨xs, hxs⟩ : ∃ xs, xs = (heP l ++ skBs l j).map u8v := ⟨_, rfl⟩
          rw [← hxs] at HHO
          have HXS := hide hxs
          clear hi1 hi00 hx1 hx0 hy1 hy0 hp1 hp0 hda hdp hsv ho hua hrb hxs hbl HO
          go_wp2_with fail
          have hstart : GR wr w.heap.size 5 13 u10 mo xs (fun _ => false) wr.drew := ⟨⟨rfl, rfl, rfl, Nat.le_refl _, fun _ _ _ => rfl⟩, fun _ => HHO.out⟩
          refine wp_region_F 25 (GR wr w.heap.size 5 13 u10 mo xs) (ER 13 u10.ownBlock) (by kernel_rfl) (by kernel_rfl) hstart (fun Q HQ => ?_)
          simp only [List.take_succ_cons, List.take_zero, List.map_cons, List.map_nil]
          repeat
            first | apply wpF_c rfl | apply wpF_gc rfl (guard_mk rfl rfl)
            focus
              intro L ev wx hG hL hM hx
              (try simp [Op.operands, Call.operands, opndS, Slot.holds] at hx)
              obtain ⟨k1, k2, k3, k4⟩ := HCEL.out wx hG.1
              go_simp
              exact ⟨hG.same (Below.refl _ _) (by decide), ER.of (Below.refl _ _), rfl⟩
              done
            dsimp only [setS, List.set]
          refine wpF_p (R := PN wr.heap.size 5 ua ((uv da).map u8v)) rfl (stabPN HRB.out) ?_ ?_
          focus
            intro L ev wx hG hL hM hx
            (try simp [Op.operands, Call.operands, opndS, Slot.holds] at hx)
            go_simp
            refine (ruv_any (da : Int) da wx rfl (by omega)).mono ?_
            rintro e w' ⟨v, rfl, hown, hb⟩
            rw [← HUA.out] at hown
            exact ⟨v, rfl, hG.same hb (by decide), ER.of hb, own_base hown hG.1.size⟩
          dsimp only [setS, List.set]
          refine wpF_p (R := PN w.heap.size 5 (mo + ua) (xs ++ (uv da).map u8v)) rfl (stabPO2 (.inl rfl)) ?_ ?_
          focus
            intro L ev wx hG hL hM hx
            (try simp [Op.operands, Call.operands, opndS, Slot.holds] at hx)
            obtain ⟨hv56, hv68⟩ := hx
            have hv68 : wx.ownsRow wr.heap.size 5 1 (ev (.tmp 68)) ua ((uv da).map u8v) := hv68
            obtain ⟨hq1, A7, c7, e68, -, hr7, -, -⟩ := own_form hv68
            obtain ⟨v', w', hrun, h2, h3, h4⟩ := run_append_rd (P := Try.prog) wx w.heap.size 42 42 5 i0 _ 1 1 Try.underlying42 hi0 hz0 hz1 hz2 rfl (by omega) u10 mo xs (hG.2 hL) A7 ua c7 ((uv da).map u8v) (by rw [Nat.mul_one]; exact hq1.symm) hr7 (u8s_one _) (by simp only [maxLen]; omega) (by omega) (Nat.le_trans hbs hG.1.size)
            unfold execOp
            simp only [resolve, invoke, builtin, Sem.run_bind, Sem.run_pure, Result.andThen_ok, List.map_toArray, List.map_cons, List.map_nil, hv56, e68, hrun]
            exact ⟨⟨hG.1.trans h3, fun h => by simp [upL] at h⟩, ⟨h3, fun h => absurd rfl h⟩, h2⟩
          dsimp only [setS, List.set]
          repeat
            first | apply wpF_c rfl | apply wpF_gc rfl (guard_mk rfl rfl)
            focus
              intro L ev wx hG hL hM hx
              (try simp [Op.operands, Call.operands, opndS, Slot.holds] at hx)
              obtain ⟨k1, k2, k3, k4⟩ := HCEL.out wx hG.1
              go_simp
              exact ⟨hG.same (Below.refl _ _) (by decide), ER.of (Below.refl _ _), rfl⟩
              done
            dsimp only [setS, List.set]
          refine wpF_nil (HQ _ fun w6' hG6 => ?_)
          simp only [closeS, List.drop_succ_cons, List.drop_zero, List.drop_nil]
          clear HQ hstart
          rintro v68 h68 v69 h69
          have h69 : w6'.ownsRow w.heap.size 5 1 v69 (mo + ua) (xs ++ (uv da).map u8v) := h69
          have HB6' := hide (show Below w.heap.size w w6' from bl_grown HB'.out hG6.1 (fun q hq => (HHO.out.lt q hq).1))
          have HS6 := hide (own_keep2 HS.out HHO.out (by decide) hG6.1)
          have HO69 := hide h69
          obtain ⟨mo2, hmo2e⟩ : ∃ mo2, mo2 = mo + ua := ⟨_, rfl⟩
          rw [← hmo2e] at HO69
          clear h68 h69 hG6
          go_wp2_with fail
          refine (ruv_any (dp : Int) dp w6' rfl (by omega)).mono ?_
          rintro e w7 ⟨r7, rfl, ho7, hb7⟩
          have HB7 := hide (HB6'.out.trans (hb7.mono HB6'.out.size))
          have HO79 := hide (own_below HO69.out hb7)
          have HS7 := hide (own_below HS6.out hb7)
          obtain ⟨hq1, A8, c8, rfl, -, hr8, -, -⟩ := own_form ho7
          have HR8 := hide hr8
          have HQ8 := hide hq1
          obtain ⟨ub, hub⟩ : ∃ ub, ub = (uv dp).length := ⟨_, rfl⟩
          have hub2 : ub ≤ 10 := by have := uv_len dp; omega
          rw [← hub] at HQ8 ⊢
          have HXE := hide (show (xs ++ (uv da).map u8v) ++ (uv dp).map u8v = (heP l ++ skBs l (j + 1)).map u8v by
            rw [HXS.out, skBs_succ, HE.out, ← List.append_assoc]; simp)
          clear ho7 hb7 hr8 hq1 hub
          go_wp2_with (at_builtin; go_loud (refine wpList_append_rd _ rfl (.tmp 69) (.tmp 81) 42 rfl w.heap.size 5 i0 _ 1 1 Try.underlying42 hi0 hz0 hz1 hz2 rfl (by omega) _ _ _ rfl HO79.out A8 ub _ ((uv dp).map u8v) rfl (by rw [Nat.mul_one]; exact HQ8.out.symm) HR8.out (u8s_one _) (by simp only [maxLen]; omega) (by omega) HB7.out.size ?_); intro v9 w9 ho9 hg9 hat9)
          have HO9 : Hid (∃ m, m ≤ 120000 + 20 * (j + 1) ∧ w9.ownsRow w.heap.size 5 1 v9 m ((heP l ++ skBs l (j + 1)).map u8v)) := hide ⟨mo2 + ub, by omega, by rw [← HXE.out]; exact ho9⟩
          have HS9 := hide (own_keep2 HS7.out HO79.out (by decide) hg9)
          have HB9 := hide (bl_grown HB7.out hg9 (fun q hq => (HO79.out.lt q hq).1))
          clear ho9 hg9 hat9
          have hj1 : j + 1 ≤ ks - 1 := by have := HKS.out; have := HI1.out; omega
          have ei2 : (i1 : Int) + 16 = ((16 * (j + 1 + 1) : Nat) : Int) := by have := HI1.out; omega
          go_roundw
          case rel => exact ⟨j + 1, i64_eq ei2, hj1, HO9, HS9, HB9⟩
          case measure => simp [intOf]; have := HI1.out; have := HKS.out; omega
        · have hlti : ¬ (i1 : Int) < (k : Int) := by omega
          have hjk : j = (l.length + 15) / 16 - 1 := by rw [HLN.out, ← HKS.out]; have := HKS.out; omega
          have HEN := hide (show heP l ++ skBs l j = encP l by unfold encP; rw [hjk])
          obtain ⟨hq1, A9, c9, rfl, -, hr9, -, -⟩ := own_form ho
          have HR9 := hide (show BRd wr A9 (encP l) by rw [← HEN.out]; exact hr9)
          have HQ9 := hide (show mo = (encP l).length by rw [hq1, List.length_map, HEN.out])
          clear hjk hq1 hr9 ho HO
          go_wp2_with fail
          refine (rseal_any A9 mo c9 (encP l) wr HQ9.out (by omega) HR9.out).mono ?_
          rintro e w8 ⟨v8, rfl, ho8, hb8⟩
          have HO8 := hide (own_base ho8 HB'.out.size)
          have HB8 := hide (HB'.out.trans (hb8.mono HB'.out.size))
          clear ho8 hb8
          go_wp2
          go_ret
          exact ⟨_, mo + 4, rfl, by omega, HO8.out, HB8.out⟩
end Go.Proofs.Ytnflffhmnbjelaa
