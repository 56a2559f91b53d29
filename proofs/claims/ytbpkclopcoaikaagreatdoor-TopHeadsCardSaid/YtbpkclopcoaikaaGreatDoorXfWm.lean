/- The walk of treerel.Route, at a forest. -/
import Derived.Test.YtbpkclopcoaikaaGreatDoorXeWm
import Derived.Test.YtbpkclopcoaikaaGreatDoorMj
namespace Go.Proofs.YtbpkclopcoaikaaGreatDoor
open Go.RowKit
set_option linter.unusedVariables false
set_option linter.unusedSimpArgs false
def RouteP (p : List Int) (r : Nat → Nat) (a b : Nat) (w : World) (e : Ending) (w' : World) : Prop := ∃ s m k f, e = .returned (.tuple #[.slice s m k, .bool f]) ∧ (f = true ↔ AncS p b a) ∧ (f = true → m + r b = r a) ∧ Below w.heap.size w w'
set_option maxHeartbeats 8000000 in
set_option maxRecDepth 100000 in
theorem rroute_any (c : Cv) (d : Cd) (p : List Int) (r : Nat → Nat) (a b : Nat) (w : World) (h : IsHd w c p) (hs : IsS w c.L.a c.L.n d.L) (hn : c.T.n ≤ 4096) (hF : Forest p r) (ha : a < c.T.n) (hb : b < c.T.n) :
    Calls Tryz.prog 19 #[c.v, .int .i64 (a : Int), .int .i64 (b : Int)] w (RouteP p r a b w) := by
  obtain ⟨i2, hi2, hz0, hz1, hz2⟩ := info_parts info_int
  obtain ⟨i3, hi3, hy0, hy1, hy2⟩ := info_parts info_str
  have hap : a < p.length := by rw [← h.len]; exact ha
  have hbp : b < p.length := by rw [← h.len]; exact hb
  have HAB := hide (And.intro hap hbp)
  have HLA := hide (wayU_len hF _ a rfl hap)
  have HDP := hide (show r a < c.T.n by rw [h.len]; exact forest_deep hF hap)
  have HF := hide hF
  obtain ⟨W0, hW0⟩ : ∃ W0, W0 = w.alloc c.o := ⟨_, rfl⟩
  have HB := hide (bl_alloc (bl_refl w) c.o)
  have HC := hide (CCells.new w c)
  rw [← hW0] at HB HC
  have HH := hide (h.below HB.out)
  have HS := hide (hs.below HB.out)
  have HTK : Hid (∀ (i : Nat) wx, i < c.T.n → Calls Tryz.prog 25 #[c.v, .int .i64 (i : Int)] wx fun e w' => e = .returned (.bool true) ∧ Below wx.heap.size wx w') := hide (fun i wx hi => token_tok c i wx hi)
  have HUP : Hid (∀ (i : Nat) wx, i < c.T.n → Below W0.heap.size W0 wx → Calls Tryz.prog 15 #[c.v, .int .i64 (i : Int)] wx fun e w' => ∃ a m k, e = .returned (.slice a m k) ∧ m = r i ∧ m ≤ k ∧ k ≤ maxLen ∧ IsI w' a m (nats (wayU p r i).tail) ∧ Below wx.heap.size wx w') := hide (fun i wx hi hx => rup_any c p r i wx (HH.out.below hx) hn hF hi)
  clear h hF hs
  go_enter Tryz.func19, Tryz.ntmps19
  go_wp2_with fail
  rw [← hW0]
  clear hW0
  refine (HTK.out a _ ha).mono ?_
  rintro e w1 ⟨rfl, hb1⟩
  have HE1 := hide hb1
  clear hb1
  obtain ⟨s0, s1, s2, s3, s4, s5, s6⟩ := HC.out.below HE1.out
  go_wp2_with fail
  clear s0 s1 s2 s3 s4 s5 s6
  refine (HTK.out b _ hb).mono ?_
  rintro e w2 ⟨rfl, hb2⟩
  have HE2 := hide (HE1.out.trans (hb2.mono HE1.out.size))
  clear hb2
  have HE2a := hide (bl_alloc HE2.out (.cells #[.int .i64 (a : Int)] 3 (0, 0)))
  obtain ⟨s0, s1, s2, s3, s4, s5, s6⟩ := HC.out.below HE2a.out
  go_wp2_with fail
  clear s0 s1 s2 s3 s4 s5 s6
  refine (HUP.out a _ ha HE2a.out).mono ?_
  rintro e w5 ⟨a5, m5, k5, rfl, hm5, hk5, hk5m, hi5, hb5⟩
  have HM5 := hide hm5
  have HE5 := hide (HE2a.out.trans (hb5.mono HE2a.out.size))
  have HR5 := hide hi5.2
  have HN5 := hide (show (nats (wayU p r a).tail).length = m5 from hi5.1.symm)
  have hw4 : W0.heap.size ≤ w2.heap.size := HE2.out.size
  have HOA := hide (own_base (own_below (own_litT w2 #[.int .i64 (a : Int)] 3 1 rfl (by simp [maxLen])) hb5) hw4)
  have HWA : Hid ([iv (a : Int)] ++ (nats (wayU p r a).tail).map iv = (nats (wayU p r a)).map iv) := hide (by rw [show nats (wayU p r a) = nats (a :: (wayU p r a).tail) from congrArg nats (wayU_cons HF.out HAB.out.1)]; rfl)
  have hdp5 : m5 ≤ 4096 := by have h1 := HDP.out; have h2 := HM5.out; omega
  clear hb5 hi5 hm5 hw4
  go_wp2_with (at_builtin; go_loud (refine wpList_append_rd _ rfl (.tmp 24) (.tmp 27) 27 rfl W0.heap.size 3 i2 _ 1 8 Tryz.underlying27 hi2 hz0 hz1 hz2 rfl (by decide) (.slice (some ⟨w2.heap.size, 0, none⟩) 1 1) 1 [.int .i64 (a : Int)] rfl HOA.out a5 m5 k5 ((nats (wayU p r a).tail).map iv) rfl (by rw [List.length_map, HN5.out, Nat.mul_one]) HR5.out (by intro u hu; obtain ⟨z, _, rfl⟩ := List.mem_map.1 hu; rfl) (by simp only [maxLen]; omega) (by omega) HE5.out.size ?_; intro v6 w6 hown hg1 hat1; have HE6 := hide (HE5.out.grown hg1 HE5.out.size (fun q hq => (ownG_lt HOA.out hq).1)); have HO6 := hide hown; clear hg1 hat1; obtain ⟨aA, cA, hvA, hcA, hiA⟩ := ownG_form hown; subst hvA; clear hown hcA hiA))
  have HO6 := hide (show w6.ownsRow W0.heap.size 3 1 (.slice aA (1 + m5) cA) (1 + m5) ((nats (wayU p r a)).map iv) by rw [← HWA.out]; exact HO6.out)
  have HMA := hide (show 1 + m5 = (nats (wayU p r a)).length by rw [nats_len, HLA.out, HM5.out]; omega)
  have HIA6 : Hid (IsI w6 aA (1 + m5) (nats (wayU p r a))) := hide (by
    obtain ⟨a', c', hv, _, _, hi⟩ := own_isI HO6.out HMA.out
    injection hv with hv1 _ hv2
    subst hv1
    exact hi)
  obtain ⟨mA, hmA⟩ : ∃ m, m = 1 + m5 := ⟨_, rfl⟩
  rw [← hmA] at HIA6 HMA ⊢
  have hmA4 : mA ≤ 4097 := by omega
  clear HO6 HOA HWA HR5 HN5
  go_wp2_with fail
  go_loopw [8, 31] (fun ov kv wr => ∃ (t : Nat) (xs : List Value), kv = .int .i64 (t : Int) ∧ t ≤ mA ∧ Hid (∀ t', t' < t → (wayU p r a)[t']? ≠ some b) ∧ Hid (wr.ownsRow w6.heap.size 9 1 ov t xs) ∧ Hid (Below w6.heap.size w6 wr)) (fun _ kv _ => mA - (intOf kv).toNat)
  case atStart => exact ⟨0, [], rfl, Nat.zero_le _, hide (fun t' h => absurd h (by omega)), hide (World.ownsRow_nil _ _ _ _), hide (bl_refl w6)⟩
  case round =>
    obtain ⟨t, xs, rfl, ht, HNO, HO, HBk⟩ := hrel
    obtain ⟨av, cv, hv, hcc, hrd⟩ := ownG_form HO.out
    subst hv
    clear hcc hrd
    have HE7 := hide (HE6.out.trans (HBk.out.mono HE6.out.size))
    by_cases htm : t < mA
    · have hti : (t : Int) < (mA : Int) := by omega
      obtain ⟨bA, oA, x, hax, hbA, hx, e0⟩ := (HIA6.out.below HBk.out).at_ htm
      subst hax
      have hx' : ∃ y, (wayU p r a)[t]? = some y ∧ x = (y : Int) := by
        unfold nats at hx
        rw [List.getElem?_map, Option.map_eq_some_iff] at hx
        obtain ⟨y, h1, h2⟩ := hx
        exact ⟨y, h1, h2.symm⟩
      obtain ⟨y, hy, rfl⟩ := hx'
      have HY := hide hy
      clear hx hy hbA
      by_cases hyb : y = b
      · have he : ((y : Int) == (b : Int)) = true := by rw [beq_iff_eq]; omega
        have hat := wayU_at HF.out t a b HAB.out.1 (by rw [HY.out, hyb])
        have HAT := hide (And.intro hat.1 hat.2.1)
        clear hat hyb
        go_wp2
        go_ret2
        exact ⟨_, _, _, true, rfl, ⟨fun _ => HAT.out.1, fun _ => rfl⟩, fun _ => by have := HAT.out.2; omega, HB.out.trans (HE7.out.mono HB.out.size)⟩
      · have he : ((y : Int) == (b : Int)) = false := by rw [beq_eq_false_iff_ne]; omega
        have HNO2 : Hid (∀ t', t' < t + 1 → (wayU p r a)[t']? ≠ some b) := hide (fun t' h => by
          rcases Nat.lt_or_ge t' t with h1 | h1
          · exact HNO.out t' h1
          · obtain rfl : t' = t := by omega
            rw [HY.out]
            intro h2
            injection h2 with h2
            exact hyb h2)
        clear hyb
        by_cases hyl : y < c.L.n
        · have hyi : (y : Int) < (c.L.n : Int) := by omega
          obtain ⟨bL, oL, s, hLe, hbL, hsx, f0⟩ := (HS.out.below HE7.out).at_ hyl
          obtain ⟨S, hS⟩ : ∃ S, S = bstr s := ⟨_, rfl⟩
          rw [← hS] at f0
          clear hS hsx hbL
          have c6 := (HC.out.below HE7.out).c6
          rw [hLe] at c6
          have HRL := hide (rd_lit wr #[.string S] 9 (0, 0))
          have HBA := hide (bl_alloc HBk.out (.cells #[.string S] 9 (0, 0)))
          have HOA := hide (ownG_below HO.out (bl_alloc (bl_refl wr) (.cells #[.string S] 9 (0, 0))))
          have HSA := hide HBA.out.size
          go_wp2_with (at_builtin; go_loud (refine wpList_append_rd _ rfl (.tmp 49) (.tmp 51) 28 rfl w6.heap.size 9 i3 _ 1 16 Tryz.underlying28 hi3 hy0 hy1 hy2 rfl (by decide) (.slice av t cv) t xs rfl HOA.out (some ⟨wr.heap.size, 0, none⟩) 1 1 [.string S] rfl rfl HRL.out (by intro u hu; simp at hu; subst hu; rfl) (by simp only [maxLen]; omega) (by omega) HSA.out ?_; intro v2 w8 hown hg1 hat1; have HO8 := hide hown; have HB8 := hide (HBA.out.grown hg1 HSA.out (fun q hq => (ownG_lt HOA.out hq).1)); clear hown hg1 hat1))
          go_roundw
          case rel => exact ⟨_, _, _, _, _, _, ⟨t + 1, by go_num, by omega, HNO2, _, HO8⟩, rfl, rfl, rfl, rfl, rfl, rfl⟩
          case measure => simp [intOf]; omega
        · have hyi : ¬ (y : Int) < (c.L.n : Int) := by omega
          have c6 := (HC.out.below HE7.out).c6
          have HRL := hide (rd_lit wr #[.string ⟨#[]⟩] 9 (0, 0))
          have HBA := hide (bl_alloc HBk.out (.cells #[.string ⟨#[]⟩] 9 (0, 0)))
          have HOA := hide (ownG_below HO.out (bl_alloc (bl_refl wr) (.cells #[.string ⟨#[]⟩] 9 (0, 0))))
          have HSA := hide HBA.out.size
          go_wp2_with (at_builtin; go_loud (refine wpList_append_rd _ rfl (.tmp 49) (.tmp 51) 28 rfl w6.heap.size 9 i3 _ 1 16 Tryz.underlying28 hi3 hy0 hy1 hy2 rfl (by decide) (.slice av t cv) t xs rfl HOA.out (some ⟨wr.heap.size, 0, none⟩) 1 1 [.string ⟨#[]⟩] rfl rfl HRL.out (by intro u hu; simp at hu; subst hu; rfl) (by simp only [maxLen]; omega) (by omega) HSA.out ?_; intro v2 w8 hown hg1 hat1; have HO8 := hide hown; have HB8 := hide (HBA.out.grown hg1 HSA.out (fun q hq => (ownG_lt HOA.out hq).1)); clear hown hg1 hat1))
          go_roundw
          case rel => exact ⟨_, _, _, _, _, _, ⟨t + 1, by go_num, by omega, HNO2, _, HO8⟩, rfl, rfl, rfl, rfl, rfl, rfl⟩
          case measure => simp [intOf]; omega
    · have hti : ¬ (t : Int) < (mA : Int) := by omega
      have HL := hide (show ¬ AncS p b a from fun hA => by
        obtain ⟨h1, h2⟩ := wayU_mem HF.out HAB.out.1 hA
        have hql := (List.getElem?_eq_some_iff.1 h1).1
        have := HMA.out
        rw [nats_len] at this
        exact HNO.out _ (by omega) h1)
      go_wp2
      refine bodyPost_ret (v := .tuple #[.slice none 0 0, .bool false]) (by simp [results, Tryz.results19, go_sem]) rfl ⟨none, 0, 0, false, rfl, ⟨fun h => absurd h (by simp), fun h => absurd h HL.out⟩, fun h => absurd h (by simp), HB.out.trans (HE7.out.mono HB.out.size)⟩
end Go.Proofs.YtbpkclopcoaikaaGreatDoor
