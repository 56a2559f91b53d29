/- The walk of the reference's Phrase, and of the law ListsPhrases. -/
import Derived.Test.YtjiijhbkbmnhbaaLShW
namespace Go.Proofs.Ytjiijhbkbmnhbaa
open Go.RowKit
set_option linter.unusedVariables false
set_option linter.unusedSimpArgs false
def phf (l : List Int) (o : Int) (T : Int → Bool) : List Int := (l.map fun x => x - o).filter T
theorem phf_yes {l : List Int} {j : Nat} {x o p : Int} {T : Int → Bool} (hx : l[j]? = some x) (hp : x - o = p) (h : T p = true) : phf (l.take (j + 1)) o T = phf (l.take j) o T ++ [p] := by
  subst hp
  unfold phf; rw [List.take_add_one, hx, List.map_append, List.filter_append]; simp [h]
theorem phf_no {l : List Int} {j : Nat} {x o p : Int} {T : Int → Bool} (hx : l[j]? = some x) (hp : x - o = p) (h : T p = false) : phf (l.take (j + 1)) o T = phf (l.take j) o T := by
  subst hp
  unfold phf; rw [List.take_add_one, hx, List.map_append, List.filter_append]; simp [h]
theorem phf_len (l : List Int) (o : Int) (T : Int → Bool) : (phf l o T).length ≤ l.length := by
  have := List.length_filter_le T (l.map fun x => x - o)
  rw [List.length_map] at this
  exact this
theorem phrR_at {ps : List (List Int × Int)} {l : List Int} {o : Int} (h : ps[0]? = some (l, o)) : phrR ps = phf l o (phrT ps) := by
  cases ps with
  | nil => cases h
  | cons p ps =>
    simp at h
    subst h
    rfl
def phrJ (ps : List (List Int × Int)) (p : Int) (j : Nat) : Bool := decide (0 ≤ p) && (ps.take j).all fun q => decide (p + q.2 ∈ q.1)
theorem phrJ_step {ps : List (List Int × Int)} {p : Int} {j : Nat} {l : List Int} {o : Int} (h : ps[j]? = some (l, o)) : phrJ ps p (j + 1) = (phrJ ps p j && decide (p + o ∈ l)) := by
  unfold phrJ
  rw [List.take_add_one, h, List.all_append, Bool.and_assoc]
  simp
theorem phrJ_all {ps : List (List Int × Int)} {p : Int} {j : Nat} (h : ps.length ≤ j) : phrJ ps p j = phrT ps p := by
  unfold phrJ phrT
  rw [List.take_of_length_le h]
set_option maxHeartbeats 4000000 in
set_option maxRecDepth 100000 in
theorem rphrase_any (a : Option Addr) (n cap : Nat) (ls : List (List Int)) (b : Option Addr) (m d : Nat) (os : List Int) (w : World) (h : IsLL w a n ls) (ho : IsI w b m os) (hn : n ≤ 100000) (hm : m ≤ 100000) :
    Calls Try.prog 21 #[.slice a n cap, .slice b m d] w fun e w' => LRes w.heap.size (phraseM ls os) e w' ∧ Below w.heap.size w w' := by
  obtain ⟨i0, hi0, hz0, hz1, hz2⟩ := info_parts info_int
  have HI := hide h
  have HN := hide h.1
  have HOS := hide ho
  have HM := hide ho.1
  clear h ho
  by_cases hn0 : n = 0
  · have hr : phraseM ls os = ([], 15) := by unfold phraseM; rw [if_pos (.inl (by rw [← HN.out]; exact hn0))]
    have HR := hide hr
    subst hn0
    clear hr
    go_enter Try.func21, Try.ntmps21
    go_wp2
    go_ret2
    exact ⟨⟨_, by rw [HR.out]; rfl, by rw [HR.out]; exact World.ownsRow_nil _ _ _ _⟩, bl_refl w⟩
  have hn0' : ((n : Int) == 0) = false := by rw [beq_eq_false_iff_ne]; omega
  by_cases hnm : n = m
  case neg =>
    have hr : phraseM ls os = ([], 15) := by unfold phraseM; rw [if_pos (.inr (by rw [← HN.out, ← HM.out]; exact hnm))]
    have HR := hide hr
    have hnm' : ((n : Int) != (m : Int)) = true := by rw [bne_iff_ne]; omega
    clear hr hnm
    go_enter Try.func21, Try.ntmps21
    go_wp2
    go_ret2
    exact ⟨⟨_, by rw [HR.out]; rfl, by rw [HR.out]; exact World.ownsRow_nil _ _ _ _⟩, bl_refl w⟩
  subst hnm
  have hph : phraseM ls os = if chkA ls = 0 then (if os.any badO then ([], 1) else (phrP (ls.zip os), 0)) else ([], chkA ls) := by
    unfold phraseM
    rw [if_neg]
    rintro (h | h)
    · rw [← HN.out] at h; exact hn0 h
    · exact h (by rw [← HN.out, ← HM.out])
  have HPH := hide hph
  clear hph
  go_enter Try.func21, Try.ntmps21
  go_wp2_with fail
  refine (rall_any a n cap ls w HI.out hn).mono ?_
  rintro e w1 ⟨rfl, hb1⟩
  by_cases hz : chkA ls = 0
  case neg =>
    have hr : phraseM ls os = ([], chkA ls) := by rw [HPH.out, if_neg hz]
    obtain ⟨q, hq⟩ : ∃ q, q = chkA ls := ⟨_, rfl⟩
    rw [← hq] at hr hz ⊢
    have hqz : ((q : Int) != 0) = true := by rw [bne_iff_ne]; omega
    have HR := hide hr
    clear hr hz hq
    go_wp2
    go_ret2
    exact ⟨⟨_, by rw [HR.out]; rfl, by rw [HR.out]; exact World.ownsRow_nil _ _ _ _⟩, hb1⟩
  rw [hz]
  have hall := (chkA_zero ls).1 hz
  have hph2 : phraseM ls os = if os.any badO then ([], 1) else (phrP (ls.zip os), 0) := by rw [HPH.out, if_pos hz]
  have HALL := hide hall
  have HP2 := hide hph2
  clear hz hall hph2
  go_wp2_with fail
  go_loopw [33] (fun i wr => ∃ k : Nat, i = .int .i64 (k : Int) ∧ k ≤ n ∧ Hid (∀ x ∈ os.take k, badO x = false) ∧ Below w.heap.size w wr) (fun i _ => n - (intOf i).toNat)
  case atStart => exact ⟨0, rfl, Nat.zero_le _, hide (fun x h => by simp at h), hb1⟩
  case round =>
    obtain ⟨k, rfl, hk, HK, hb⟩ := hrel
    by_cases hlt : k < n
    · obtain ⟨b1, o1, x, rfl, hbl, hx, e0⟩ := (HOS.out.below hb).at_ hlt
      have hkn : (k : Int) < (n : Int) := by omega
      have HX := hide hx
      clear hx hlt
      by_cases h6 : x < -4096
      · skip
        have hr : phraseM ls os = ([], 1) := by rw [HP2.out, if_pos (List.any_eq_true.2 ⟨x, List.mem_of_getElem? HX.out, by unfold badO; simp; omega⟩)]
        have HR := hide hr
        clear hr
        go_wp2
        go_ret2
        exact ⟨⟨_, by rw [HR.out]; rfl, by rw [HR.out]; exact World.ownsRow_nil _ _ _ _⟩, hb⟩
      by_cases h7 : 4096 < x
      · skip
        have hr : phraseM ls os = ([], 1) := by rw [HP2.out, if_pos (List.any_eq_true.2 ⟨x, List.mem_of_getElem? HX.out, by unfold badO; simp; omega⟩)]
        have HR := hide hr
        clear hr
        go_wp2
        go_ret2
        exact ⟨⟨_, by rw [HR.out]; rfl, by rw [HR.out]; exact World.ownsRow_nil _ _ _ _⟩, hb⟩
      go_wp2
      go_roundw
      case rel =>
        refine ⟨k + 1, by go_num, by omega, hide fun y hy => ?_, hb⟩
        rw [take_snoc' os k x HX.out] at hy
        rcases List.mem_append.1 hy with h | h
        · exact HK.out y h
        · simp at h; subst h; unfold badO; simp; omega
      case measure => simp [intOf]; omega
    · obtain rfl : k = n := by omega
      have hgood : ∀ x ∈ os, badO x = false := by
        have := HK.out
        rwa [List.take_of_length_le (by rw [← HM.out]; exact Nat.le_refl _)] at this
      have hr : phraseM ls os = (phrP (ls.zip os), 0) := by
        rw [HP2.out, if_neg]
        intro h
        obtain ⟨x, h1, h2⟩ := List.any_eq_true.1 h
        rw [hgood x h1] at h2; cases h2
      have HGOOD := hide hgood
      have HR := hide hr
      clear hgood hr hlt
      obtain ⟨w2, hw2⟩ : ∃ w2, w2 = wr := ⟨_, rfl⟩
      subst hw2
      obtain ⟨b1, o1, l0, a0, c0, rfl, hbl, hl0, e0, hlc, hcm, hil⟩ := (HI.out.below hb).at_ (k := 0) (by omega)
      obtain ⟨b2, o2, x0, rfl, hbl2, hx0, e1⟩ := (HOS.out.below hb).at_ (k := 0) (by omega)
      rw [Nat.add_zero] at e0 e1
      have hkn : (0 : Int) < (k : Int) := by omega
      have hlv := (chkL_zero l0).1 (HALL.out l0 (List.mem_of_getElem? hl0))
      have hbx := HGOOD.out x0 (List.mem_of_getElem? hx0)
      have hx1 : -4096 ≤ x0 := by unfold badO at hbx; simp at hbx; omega
      have hx2 : x0 ≤ 4096 := by unfold badO at hbx; simp at hbx; omega
      have hzip : (ls.zip os)[0]? = some (l0, x0) := by rw [List.getElem?_zip_eq_some]; exact ⟨hl0, hx0⟩
      have hpr : phrP (ls.zip os) = phf l0 x0 (phrT (ls.zip os)) := by
        rw [← phrR_at hzip, phrP_eq]
        rintro ⟨p1, p2⟩ hp
        exact ((chkL_zero p1).1 (HALL.out p1 (List.of_mem_zip hp).1)).2.2
      have HPR := hide hpr
      have HLV := hide hlv
      have HIL := hide hil
      have HE1 := hide e1
      obtain ⟨m, hm⟩ : ∃ m, m = l0.length := ⟨_, rfl⟩
      rw [← hm] at e0 hlc
      have hm4 : m ≤ 4096 := by rw [hm]; exact hlv.1
      have HMM := hide hm
      have hzl : (ls.zip os).length ≤ k := by rw [List.length_zip, ← HN.out]; omega
      have HZL := hide hzl
      clear hl0 hx0 hlv hbx hzip hpr hil hm hzl
      go_wp2_with fail
      go_loopw [9, 48] (fun v9 i wo => ∃ (q : Nat), i = .int .i64 (q : Int) ∧ q ≤ m ∧ Hid (wo.ownsRow w2.heap.size 3 1 v9 (phf (l0.take q) x0 (phrT (ls.zip os))).length ((phf (l0.take q) x0 (phrT (ls.zip os))).map iv)) ∧ Below w2.heap.size w2 wo) (fun _ i _ => m - (intOf i).toNat)
      case atStart => exact ⟨0, rfl, Nat.zero_le _, hide (by simpa [phf] using World.ownsRow_nil _ _ _ _), bl_refl w2⟩
      case round =>
        obtain ⟨q, rfl, hq, HO, hbo⟩ := hrel
        obtain ⟨wo, hwo⟩ : ∃ wo, wo = wr := ⟨_, rfl⟩
        subst hwo
        by_cases hlq : q < m
        · obtain ⟨b3, o3, y, rfl, hbl3, hy, e3⟩ := (HIL.out.below hbo).at_ (show q < l0.length by rw [← HMM.out]; exact hlq)
          have hqm : (q : Int) < (m : Int) := by omega
          have hyr : inR y := HLV.out.2.1 y (List.mem_of_getElem? hy)
          unfold inR at hyr
          have hy1 := hyr.1
          have hy2 := hyr.2
          have e4 : wo.cell? ⟨b2, o2, none⟩ = some (.int .i64 x0) := (hbo.cell hbl2).trans HE1.out
          have HY := hide hy
          have hbl4 := phf_len (l0.take q) x0 (phrT (ls.zip os))
          rw [List.length_take] at hbl4
          have hbl5 : (phf (l0.take q) x0 (phrT (ls.zip os))).length ≤ 4096 := by omega
          obtain ⟨df, hdf⟩ : ∃ df, df = y - x0 := ⟨_, rfl⟩
          have hdf' : y - x0 = df := hdf.symm
          have hdb1 : -4096 ≤ df := by omega
          have hdb2 : df ≤ 3000000000 := by omega
          have HDF := hide hdf
          obtain ⟨T, hT⟩ : ∃ T, T = phrT (ls.zip os) := ⟨_, rfl⟩
          rw [← hT] at HO hbl5 ⊢
          have HT := hide hT
          have hb0 := hb.trans (hbo.mono hb.size)
          obtain ⟨ok0, hok0⟩ : ∃ ok0, ok0 = decide (0 ≤ df) := ⟨_, rfl⟩
          have HOK := hide hok0
          clear hyr hy hbl4 hlq hdf hT hok0
          by_cases h0 : 0 ≤ df
          · skip
            go_wp2_with fail
            go_loopw [13, 61] (fun v13 i wi => ∃ (j : Nat) (ok : Bool), v13 = .bool ok ∧ i = .int .i64 (j : Int) ∧ j ≤ k ∧ Hid (ok = phrJ (ls.zip os) df j) ∧ Below wo.heap.size wo wi) (fun _ i _ => k - (intOf i).toNat)
            case atStart => exact ⟨0, _, rfl, rfl, Nat.zero_le _, hide (by unfold phrJ; simp; omega), bl_refl wo⟩
            case round =>
              obtain ⟨j, ok, rfl, rfl, hj, HJ, hbi⟩ := hrel
              by_cases hlj : j < k
              · obtain ⟨b5, o5, lj, aj, cj, he5, hbl5', hlj5, e5, hljc, hljm, hij⟩ := (HI.out.below (hb0.trans (hbi.mono hb0.size))).at_ hlj
                injection he5 with he5
                injection he5 with he5 he6
                subst he5 he6
                obtain ⟨b6, o6, xj, he7, hbl6, hxj, e6⟩ := (HOS.out.below (hb0.trans (hbi.mono hb0.size))).at_ hlj
                injection he7 with he7
                injection he7 with he7 he8
                subst he7 he8
                have hjk : (j : Int) < (k : Int) := by omega
                have hbx := HGOOD.out xj (List.mem_of_getElem? hxj)
                have hxj1 : -4096 ≤ xj := by unfold badO at hbx; simp at hbx; omega
                have hxj2 : xj ≤ 4096 := by unfold badO at hbx; simp at hbx; omega
                have hzj : (ls.zip os)[j]? = some (lj, xj) := by rw [List.getElem?_zip_eq_some]; exact ⟨hlj5, hxj⟩
                have hst := phrJ_step (p := df) hzj
                rw [← HJ.out] at hst
                obtain ⟨sm, hsm⟩ : ∃ sm, sm = df + xj := ⟨_, rfl⟩
                have hsm' : df + xj = sm := hsm.symm
                have hs1 : -10000 ≤ sm := by omega
                have hs2 : sm ≤ 4000000000 := by omega
                rw [← hsm] at hst
                have HST := hide hst
                have hljl : lj.length ≤ 4096 := ((chkL_zero lj).1 (HALL.out lj (List.mem_of_getElem? hlj5))).1
                obtain ⟨mj, hmj⟩ : ∃ mj, mj = lj.length := ⟨_, rfl⟩
                rw [← hmj] at e5 hljc hljl hij
                have HIJ := hide hij
                clear hbx hzj hst hsm hlj5 hxj hmj hij hlj
                cases ok
                · go_wp2
                  go_roundw
                  case rel => exact ⟨j + 1, false, rfl, by go_num, by omega, hide (by rw [HST.out]; rfl), hbi⟩
                  case measure => simp [intOf]; omega
                · go_wp2_with fail
                  refine (has_any aj mj cj lj sm wr HIJ.out (by omega)).mono ?_
                  rintro e w6 ⟨rfl, hb6⟩
                  obtain ⟨r, hrr⟩ : ∃ r, r = decide (sm ∈ lj) := ⟨_, rfl⟩
                  rw [← hrr]
                  have HRR := hide hrr
                  clear hrr
                  go_wp2
                  go_roundw
                  case rel => exact ⟨j + 1, r, rfl, by go_num, by omega, hide (by rw [HST.out, HRR.out]; rfl), bl_trans hbi hb6⟩
                  case measure => simp [intOf]; omega
              · obtain rfl : j = k := by omega
                have hfin : T df = ok := by rw [HT.out, ← phrJ_all HZL.out, HJ.out]
                have hbw2 : Below w2.heap.size w2 wr := hbo.trans (hbi.mono hbo.size)
                have HOB := hide (own_below HO.out hbi)
                have hbsz := hbo.size
                have hbsz2 := hbi.size
                cases ok
                · have HFIN := hide hfin
                  clear hfin hlj
                  go_wp2
                  go_roundw
                  case rel => exact ⟨q + 1, by go_num, by omega, hide (by rw [phf_no HY.out HDF.out.symm HFIN.out]; exact HOB.out), hbw2⟩
                  case measure => simp [intOf]; omega
                · have HFIN := hide hfin
                  clear hfin hlj
                  go_wp2_with (at_builtin; (refine wpList_append_rd _ rfl (.tmp 79) (.tmp 81) 22 rfl w2.heap.size 3 i0 _ 1 8 Try.underlying22 hi0 hz0 hz1 hz2 rfl (by omega) u9 (phf (l0.take q) x0 T).length ((phf (l0.take q) x0 T).map iv) rfl (HOB.out.alloc _) _ 1 1 [iv df] rfl rfl (rd_lit _ _ _ _) (one_iv [df]) (by simp only [maxLen]; omega) (by omega) (by simp; omega) ?_); intro v6 w6 hown6 hg6 hat6)
                  go_roundw
                  case rel =>
                    refine ⟨q + 1, by go_num, by omega, hide ?_, ?_⟩
                    · rw [phf_yes HY.out HDF.out.symm HFIN.out, List.map_append, List.length_append]
                      exact hown6
                    · exact bl_grown (bl_alloc hbw2 _) hg6 (fun j hj => (HOB.out.lt j hj).1)
                  case measure => simp [intOf]; omega
          · skip
            go_wp2_with fail
            go_loopw [13, 61] (fun v13 i wi => ∃ (j : Nat) (ok : Bool), v13 = .bool ok ∧ i = .int .i64 (j : Int) ∧ j ≤ k ∧ Hid (ok = phrJ (ls.zip os) df j) ∧ Below wo.heap.size wo wi) (fun _ i _ => k - (intOf i).toNat)
            case atStart => exact ⟨0, _, rfl, rfl, Nat.zero_le _, hide (by unfold phrJ; simp; omega), bl_refl wo⟩
            case round =>
              obtain ⟨j, ok, rfl, rfl, hj, HJ, hbi⟩ := hrel
              by_cases hlj : j < k
              · obtain ⟨b5, o5, lj, aj, cj, he5, hbl5', hlj5, e5, hljc, hljm, hij⟩ := (HI.out.below (hb0.trans (hbi.mono hb0.size))).at_ hlj
                injection he5 with he5
                injection he5 with he5 he6
                subst he5 he6
                obtain ⟨b6, o6, xj, he7, hbl6, hxj, e6⟩ := (HOS.out.below (hb0.trans (hbi.mono hb0.size))).at_ hlj
                injection he7 with he7
                injection he7 with he7 he8
                subst he7 he8
                have hjk : (j : Int) < (k : Int) := by omega
                have hbx := HGOOD.out xj (List.mem_of_getElem? hxj)
                have hxj1 : -4096 ≤ xj := by unfold badO at hbx; simp at hbx; omega
                have hxj2 : xj ≤ 4096 := by unfold badO at hbx; simp at hbx; omega
                have hzj : (ls.zip os)[j]? = some (lj, xj) := by rw [List.getElem?_zip_eq_some]; exact ⟨hlj5, hxj⟩
                have hst := phrJ_step (p := df) hzj
                rw [← HJ.out] at hst
                obtain ⟨sm, hsm⟩ : ∃ sm, sm = df + xj := ⟨_, rfl⟩
                have hsm' : df + xj = sm := hsm.symm
                have hs1 : -10000 ≤ sm := by omega
                have hs2 : sm ≤ 4000000000 := by omega
                rw [← hsm] at hst
                have HST := hide hst
                have hljl : lj.length ≤ 4096 := ((chkL_zero lj).1 (HALL.out lj (List.mem_of_getElem? hlj5))).1
                obtain ⟨mj, hmj⟩ : ∃ mj, mj = lj.length := ⟨_, rfl⟩
                rw [← hmj] at e5 hljc hljl hij
                have HIJ := hide hij
                clear hbx hzj hst hsm hlj5 hxj hmj hij hlj
                cases ok
                · go_wp2
                  go_roundw
                  case rel => exact ⟨j + 1, false, rfl, by go_num, by omega, hide (by rw [HST.out]; rfl), hbi⟩
                  case measure => simp [intOf]; omega
                · go_wp2_with fail
                  refine (has_any aj mj cj lj sm wr HIJ.out (by omega)).mono ?_
                  rintro e w6 ⟨rfl, hb6⟩
                  obtain ⟨r, hrr⟩ : ∃ r, r = decide (sm ∈ lj) := ⟨_, rfl⟩
                  rw [← hrr]
                  have HRR := hide hrr
                  clear hrr
                  go_wp2
                  go_roundw
                  case rel => exact ⟨j + 1, r, rfl, by go_num, by omega, hide (by rw [HST.out, HRR.out]; rfl), bl_trans hbi hb6⟩
                  case measure => simp [intOf]; omega
              · obtain rfl : j = k := by omega
                have hfin : T df = ok := by rw [HT.out, ← phrJ_all HZL.out, HJ.out]
                have hbw2 : Below w2.heap.size w2 wr := hbo.trans (hbi.mono hbo.size)
                have HOB := hide (own_below HO.out hbi)
                have hbsz := hbo.size
                have hbsz2 := hbi.size
                cases ok
                · have HFIN := hide hfin
                  clear hfin hlj
                  go_wp2
                  go_roundw
                  case rel => exact ⟨q + 1, by go_num, by omega, hide (by rw [phf_no HY.out HDF.out.symm HFIN.out]; exact HOB.out), hbw2⟩
                  case measure => simp [intOf]; omega
                · have HFIN := hide hfin
                  clear hfin hlj
                  go_wp2_with (at_builtin; (refine wpList_append_rd _ rfl (.tmp 79) (.tmp 81) 22 rfl w2.heap.size 3 i0 _ 1 8 Try.underlying22 hi0 hz0 hz1 hz2 rfl (by omega) u9 (phf (l0.take q) x0 T).length ((phf (l0.take q) x0 T).map iv) rfl (HOB.out.alloc _) _ 1 1 [iv df] rfl rfl (rd_lit _ _ _ _) (one_iv [df]) (by simp only [maxLen]; omega) (by omega) (by simp; omega) ?_); intro v6 w6 hown6 hg6 hat6)
                  go_roundw
                  case rel =>
                    refine ⟨q + 1, by go_num, by omega, hide ?_, ?_⟩
                    · rw [phf_yes HY.out HDF.out.symm HFIN.out, List.map_append, List.length_append]
                      exact hown6
                    · exact bl_grown (bl_alloc hbw2 _) hg6 (fun j hj => (HOB.out.lt j hj).1)
                  case measure => simp [intOf]; omega
        · obtain rfl : q = m := by omega
          have hfull : l0.take q = l0 := List.take_of_length_le (by rw [← HMM.out]; exact Nat.le_refl _)
          have ho := HO.out
          rw [hfull, ← HPR.out] at ho
          have HO2 := hide (own_base ho hb.size)
          clear hfull ho
          go_wp2
          go_ret2
          exact ⟨⟨u9, by rw [HR.out]; rfl, by rw [HR.out]; exact HO2.out⟩, hb.trans (hbo.mono hb.size)⟩
theorem phraseM_len (ls : List (List Int)) (os : List Int) : (phraseM ls os).1.length ≤ 4096 := by
  unfold phraseM
  by_cases h0 : ls.length = 0 ∨ ls.length ≠ os.length
  · rw [if_pos h0]; simp
  rw [if_neg h0]
  by_cases hz : chkA ls = 0
  case neg => rw [if_neg hz]; simp
  rw [if_pos hz]
  split
  · simp
  · show (phrP (ls.zip os)).length ≤ 4096
    rw [← phrP_eq _ (by
      rintro ⟨p1, p2⟩ hp
      exact ((chkL_zero p1).1 ((chkA_zero ls).1 hz p1 (List.of_mem_zip hp).1)).2.2)]
    cases hps : ls.zip os with
    | nil => simp [phrR]
    | cons p ps =>
      have hm : (p.1, p.2) ∈ ls.zip os := by rw [hps]; simp
      have h1 := ((chkL_zero p.1).1 ((chkA_zero ls).1 hz p.1 (List.of_mem_zip hm).1)).1
      exact Nat.le_trans (phf_len p.1 p.2 (phrT (p :: ps))) h1
namespace listsPhrases
set_option maxHeartbeats 1000000 in
set_option maxRecDepth 100000 in
theorem walk (a : Option Addr) (n c : Nat) (ls : List (List Int)) (b : Option Addr) (m d : Nat) (z : List Int) (w : World) (w0 : IsLL w a n ls ∧ n ≤ 9223372036854775807) (w1 : IsRow .i64 w b m d z) :
    Calls Try.prog 6 #[.slice a n c, .slice b m d] w fun e w' => e = .returned (.bool true) ∧ Below w.heap.size w w' := by
  obtain ⟨os, hio, hd, hdm, _⟩ := w1.ints
  have HO := hide hio
  have HLL := hide w0.1
  have hnb := w0.2
  have HAN := hide w0.1.1
  clear w0 w1 hio
  go_enter Try.func6, Try.ntmps6
  go_wp2_with fail
  refine (long_any a n c ls w HLL.out hnb).mono ?_
  rintro e w1 ⟨rfl, hb0⟩
  cases hl : longM ls
  case true =>
    go_wp2
    go_ret
    exact ⟨rfl, hb0⟩
  have hll := long_all hl
  have hn12 : n ≤ 12 := by rw [HAN.out]; exact hll.2
  clear hl hll
  by_cases hm12 : 12 < m
  · have hm12' : (12 : Int) < (m : Int) := by omega
    go_wp2
    go_ret
    exact ⟨rfl, hb0⟩
  have hm12' : ¬ (12 : Int) < (m : Int) := by omega
  go_wp2_with fail
  refine (phrase_any a n c ls b m d os w1 (HLL.out.below hb0) (HO.out.below hb0) (by omega) (by omega)).mono ?_
  rintro e w2 ⟨hr, hb2⟩
  have hq := phraseM_len ls os
  obtain ⟨u, hu⟩ : ∃ u, u = phraseM ls os := ⟨_, rfl⟩
  rw [← hu] at hr hq
  have HU := hide hu
  obtain ⟨a2, c2, rfl, hc2, hm2, hi2⟩ := hr.open_
  have HI2 := hide hi2
  have hb02 := hb0.trans (hb2.mono hb0.size)
  obtain ⟨un, hun⟩ : ∃ un, un = u.1.length := ⟨_, rfl⟩
  obtain ⟨ue, hue⟩ : ∃ ue, ue = u.2 := ⟨_, rfl⟩
  rw [← hun] at hq hc2 HI2 ⊢
  rw [← hue]
  have HUN := hide hun
  have HUE := hide hue
  clear hr hu hi2 hb2 hun hue
  go_wp2_with fail
  refine (rphrase_any a n c ls b m d os w2 (HLL.out.below hb02) (HO.out.below hb02) (by omega) (by omega)).mono ?_
  rintro e w3 ⟨hr, hb3⟩
  rw [← HU.out] at hr
  obtain ⟨a3, c3, rfl, hc3, hm3, hi3⟩ := hr.open_
  have hb03 := hb02.trans (hb3.mono hb02.size)
  rw [← HUN.out] at hc3 hi3 ⊢
  rw [← HUE.out]
  have HI3 := hide hi3
  have HI2' := hide (HI2.out.below hb3)
  clear HI2 hr hi3 hb3
  go_wp2_with fail
  refine (same_same a2 a3 un c2 c3 u.1 w3 HI2'.out HI3.out hc2 hc3 (by omega)).mono ?_
  rintro e w8 ⟨rfl, hb8⟩
  go_wp2_with fail
  refine (awake_any _).mono ?_
  rintro e w11 ⟨rfl, hb11⟩
  go_wp2
  go_ret
  exact ⟨rfl, hb03.trans ((bl_trans hb8 hb11).mono hb03.size)⟩
end listsPhrases
end Go.Proofs.Ytjiijhbkbmnhbaa
