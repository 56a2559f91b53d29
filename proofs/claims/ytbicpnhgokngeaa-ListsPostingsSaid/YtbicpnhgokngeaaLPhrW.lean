/- The walk of Phrase. -/
import Derived.Test.YtbicpnhgokngeaaLMrgW
namespace Go.Proofs.Ytbicpnhgokngeaa
open Go.RowKit
set_option linter.unusedVariables false
set_option linter.unusedSimpArgs false
def badO (x : Int) : Bool := decide (x < -4096 ∨ 4096 < x)
/-- The beginnings of a list under an offset. -/
def begs (l : List Int) (o : Int) : List Int := (l.map fun x => x - o).filter fun x => decide (0 ≤ x)
def phrP : List (List Int × Int) → List Int
  | [] => []
  | p :: ps => ps.foldl (fun out p => both out (begs p.1 p.2)) (begs p.1 p.2)
theorem phrP_snoc (ps : List (List Int × Int)) (p : List Int × Int) (h : ps ≠ []) : phrP (ps ++ [p]) = both (phrP ps) (begs p.1 p.2) := by
  cases ps with
  | nil => exact absurd rfl h
  | cons q ps => simp [phrP]
def phraseM (ls : List (List Int)) (os : List Int) : List Int × Nat :=
  if ls.length = 0 ∨ ls.length ≠ os.length then ([], 15) else if chkA ls = 0 then (if os.any badO then ([], 1) else (phrP (ls.zip os), 0)) else ([], chkA ls)
theorem asc_begs {l : List Int} (h : asc l) (o : Int) : asc (begs l o) := by
  refine asc_filter ?_ _
  show List.Pairwise _ _
  rw [List.pairwise_map]
  exact h.imp fun hab => by omega
theorem asc_both {a : List Int} (h : asc a) (b : List Int) : asc (both a b) := asc_filter h _
theorem begs_yes {l : List Int} {j : Nat} {x o : Int} (hx : l[j]? = some x) (h : 0 ≤ x - o) : begs (l.take (j + 1)) o = begs (l.take j) o ++ [x - o] := by
  unfold begs; rw [List.take_add_one, hx, List.map_append, List.filter_append]; simp; omega
theorem begs_no {l : List Int} {j : Nat} {x o : Int} (hx : l[j]? = some x) (h : ¬ 0 ≤ x - o) : begs (l.take (j + 1)) o = begs (l.take j) o := by
  unfold begs; rw [List.take_add_one, hx, List.map_append, List.filter_append]; simp; omega
theorem begs_len (l : List Int) (o : Int) : (begs l o).length ≤ l.length := by
  have := List.length_filter_le (fun x => decide (0 ≤ x)) (l.map fun x => x - o)
  rw [List.length_map] at this
  exact this
theorem take_snoc' {α : Type} (l : List α) (k : Nat) (c : α) (h : l[k]? = some c) : l.take (k + 1) = l.take k ++ [c] := by
  rw [List.take_add_one, h]; rfl
theorem gb_alloc' (w : World) (o : Obj) (r : Option Nat) : w.grownBy (w.alloc o) r := World.grownBy_alloc w o r
set_option maxRecDepth 100000 in
theorem badO_any (x : Int) (w : World) : Calls Try.prog 31 #[.int .i64 x] w fun e w' => e = .returned (.bool (badO x)) ∧ w = w' := by
  by_cases h1 : x < -4096
  · rw [show badO x = true by unfold badO; simp [h1]]
    go_enter Try.func31, Try.ntmps31
    go_wp2
    go_ret
    exact ⟨rfl, rfl⟩
  · by_cases h2 : 4096 < x
    · rw [show badO x = true by unfold badO; simp [h2]]
      go_enter Try.func31, Try.ntmps31
      go_wp2
      go_ret
      exact ⟨rfl, rfl⟩
    · rw [show badO x = false by unfold badO; simp; omega]
      go_enter Try.func31, Try.ntmps31
      go_wp2
      go_ret
      exact ⟨rfl, rfl⟩
set_option maxHeartbeats 2000000 in
set_option maxRecDepth 100000 in
theorem phrase_any (a : Option Addr) (n cap : Nat) (ls : List (List Int)) (b : Option Addr) (m d : Nat) (os : List Int) (w : World) (h : IsLL w a n ls) (ho : IsI w b m os) (hn : n ≤ 100000) (hm : m ≤ 100000) :
    Calls Try.prog 21 #[.slice a n cap, .slice b m d] w fun e w' => LRes w.heap.size (phraseM ls os) e w' ∧ Below w.heap.size w w' := by
  obtain ⟨i0, hi0, hz0, hz1, hz2⟩ := info_parts info_int
  have HI := hide h
  have HN := hide h.1
  have HOS := hide ho
  have HM := hide ho.1
  clear h ho
  by_cases hn0 : n = 0
  · have hr : phraseM ls os = ([], 15) := by unfold phraseM; rw [if_pos (.inl (by rw [← HN.out]; exact hn0))]
    have HR := hide hr
    subst hn0
    clear hr
    go_enter Try.func21, Try.ntmps21
    go_wp2
    go_ret2
    exact ⟨⟨_, by rw [HR.out]; rfl, by rw [HR.out]; exact World.ownsRow_nil _ _ _ _⟩, bl_refl w⟩
  have hn0' : ((n : Int) == 0) = false := by rw [beq_eq_false_iff_ne]; omega
  by_cases hnm : n = m
  case neg =>
    have hr : phraseM ls os = ([], 15) := by unfold phraseM; rw [if_pos (.inr (by rw [← HN.out, ← HM.out]; exact hnm))]
    have HR := hide hr
    have hnm' : ((n : Int) != (m : Int)) = true := by rw [bne_iff_ne]; omega
    clear hr hnm
    go_enter Try.func21, Try.ntmps21
    go_wp2
    go_ret2
    exact ⟨⟨_, by rw [HR.out]; rfl, by rw [HR.out]; exact World.ownsRow_nil _ _ _ _⟩, bl_refl w⟩
  subst hnm
  have hph : phraseM ls os = if chkA ls = 0 then (if os.any badO then ([], 1) else (phrP (ls.zip os), 0)) else ([], chkA ls) := by
    unfold phraseM
    rw [if_neg]
    rintro (h | h)
    · rw [← HN.out] at h; exact hn0 h
    · exact h (by rw [← HN.out, ← HM.out])
  have HPH := hide hph
  clear hph
  go_enter Try.func21, Try.ntmps21
  go_wp2_with fail
  refine (all_any a n cap ls w HI.out hn).mono ?_
  rintro e w1 ⟨rfl, hb1⟩
  by_cases hz : chkA ls = 0
  case neg =>
    have hr : phraseM ls os = ([], chkA ls) := by rw [HPH.out, if_neg hz]
    obtain ⟨q, hq⟩ : ∃ q, q = chkA ls := ⟨_, rfl⟩
    rw [← hq] at hr hz ⊢
    have hqz : ((q : Int) != 0) = true := by rw [bne_iff_ne]; omega
    have HR := hide hr
    clear hr hz hq
    go_wp2
    go_ret2
    exact ⟨⟨_, by rw [HR.out]; rfl, by rw [HR.out]; exact World.ownsRow_nil _ _ _ _⟩, hb1⟩
  rw [hz]
  have hall := (chkA_zero ls).1 hz
  have hph2 : phraseM ls os = if os.any badO then ([], 1) else (phrP (ls.zip os), 0) := by rw [HPH.out, if_pos hz]
  have HALL := hide hall
  have HP2 := hide hph2
  clear hz hall hph2
  go_wp2_with fail
  go_loopw [32] (fun i wr => ∃ k : Nat, i = .int .i64 (k : Int) ∧ k ≤ n ∧ Hid (∀ x ∈ os.take k, badO x = false) ∧ Below w.heap.size w wr) (fun i _ => n - (intOf i).toNat)
  case atStart => exact ⟨0, rfl, Nat.zero_le _, hide (fun x h => by simp at h), hb1⟩
  case round =>
    obtain ⟨k, rfl, hk, HK, hb⟩ := hrel
    by_cases hlt : k < n
    · obtain ⟨b1, o1, x, rfl, hbl, hx, e0⟩ := (HOS.out.below hb).at_ hlt
      have hkn : (k : Int) < (n : Int) := by omega
      have HX := hide hx
      clear hx hlt
      go_wp2_with fail
      refine (badO_any x wr).mono ?_
      rintro e w' ⟨rfl, rfl⟩
      cases hbx : badO x
      · have HBX := hide hbx
        clear hbx
        go_wp2
        go_roundw
        case rel =>
          refine ⟨k + 1, by go_num, by omega, hide fun y hy => ?_, hb⟩
          rw [take_snoc' os k x HX.out] at hy
          rcases List.mem_append.1 hy with h | h
          · exact HK.out y h
          · simp at h; subst h; exact HBX.out
        case measure => simp [intOf]; omega
      · have hr : phraseM ls os = ([], 1) := by rw [HP2.out, if_pos (List.any_eq_true.2 ⟨x, List.mem_of_getElem? HX.out, hbx⟩)]
        have HR := hide hr
        clear hr hbx
        go_wp2
        go_ret2
        exact ⟨⟨_, by rw [HR.out]; rfl, by rw [HR.out]; exact World.ownsRow_nil _ _ _ _⟩, hb⟩
    · obtain rfl : k = n := by omega
      have hgood : ∀ x ∈ os, badO x = false := by
        have := HK.out
        rwa [List.take_of_length_le (by rw [← HM.out]; exact Nat.le_refl _)] at this
      have hr : phraseM ls os = (phrP (ls.zip os), 0) := by
        rw [HP2.out, if_neg]
        intro h
        obtain ⟨x, h1, h2⟩ := List.any_eq_true.1 h
        rw [hgood x h1] at h2; cases h2
      have HGOOD := hide hgood
      have HR := hide hr
      clear hgood hr hlt
      go_wp2_with fail
      obtain ⟨w2, hw2⟩ : ∃ w2, w2 = wr := ⟨_, rfl⟩
      subst hw2
      go_loopw [9, 41] (fun v9 i wo => ∃ (q : Nat) (out : List Int), i = .int .i64 (q : Int) ∧ q ≤ k ∧ Hid (out = phrP ((ls.zip os).take q)) ∧ Hid (asc out) ∧ out.length ≤ 4096 ∧ Hid (wo.ownsRow w.heap.size 3 1 v9 out.length (out.map iv)) ∧ Below w.heap.size w wo) (fun _ i _ => k - (intOf i).toNat)
      case atStart => exact ⟨0, [], rfl, Nat.zero_le _, hide rfl, hide asc_nil, by simp, hide (World.ownsRow_nil _ _ _ _), hb⟩
      case round =>
        obtain ⟨q, out, rfl, hq, HOUT, HASC, hol, HO, hbo⟩ := hrel
        obtain ⟨wo, hwo⟩ : ∃ wo, wo = wr := ⟨_, rfl⟩
        subst hwo
        by_cases hlq : q < k
        · obtain ⟨b1, o1, l, a', c, rfl, hbl, hl, e0, hlc, hcm, hil⟩ := (HI.out.below hbo).at_ hlq
          obtain ⟨b2, o2, x, rfl, hbl2, hx, e1⟩ := (HOS.out.below hbo).at_ hlq
          have hqk : (q : Int) < (k : Int) := by omega
          have hlv := (chkL_zero l).1 (HALL.out l (List.mem_of_getElem? hl))
          have hbx := HGOOD.out x (List.mem_of_getElem? hx)
          have hx1 : -4096 ≤ x := by unfold badO at hbx; simp at hbx; omega
          have hx2 : x ≤ 4096 := by unfold badO at hbx; simp at hbx; omega
          have hzip : (ls.zip os)[q]? = some (l, x) := by rw [List.getElem?_zip_eq_some]; exact ⟨hl, hx⟩
          have HZIP := hide hzip
          have HLV := hide hlv
          have HIL := hide hil
          obtain ⟨m, hm⟩ : ∃ m, m = l.length := ⟨_, rfl⟩
          rw [← hm] at e0 hlc
          have hm4 : m ≤ 4096 := by rw [hm]; exact hlv.1
          have HMM := hide hm
          clear hl hx hlv hbx hzip hil hm hlq
          go_wp2_with fail
          go_loopw [12, 48] (fun v12 i wi => ∃ (j : Nat), i = .int .i64 (j : Int) ∧ j ≤ m ∧ Hid (wi.ownsRow wo.heap.size 3 1 v12 (begs (l.take j) x).length ((begs (l.take j) x).map iv)) ∧ Below wo.heap.size wo wi) (fun _ i _ => m - (intOf i).toNat)
          case atStart => exact ⟨0, rfl, Nat.zero_le _, hide (by simpa [begs] using World.ownsRow_nil _ _ _ _), bl_refl wo⟩
          case round =>
            obtain ⟨j, rfl, hj, HB, hbi⟩ := hrel
            by_cases hlj : j < m
            · obtain ⟨b3, o3, y, rfl, hbl3, hy, e3⟩ := (HIL.out.below hbi).at_ (show j < l.length by rw [← HMM.out]; exact hlj)
              have hjm : (j : Int) < (m : Int) := by omega
              have hyr : inR y := HLV.out.2.1 y (List.mem_of_getElem? hy)
              unfold inR at hyr
              have hy1 := hyr.1
              have hy2 := hyr.2
              have e4 : wr.cell? ⟨b2, o2 + q, none⟩ = some (.int .i64 x) := (hbi.cell hbl2).trans e1
              have HY := hide hy
              have hbl4 := begs_len (l.take j) x
              rw [List.length_take] at hbl4
              have hbl5 : (begs (l.take j) x).length ≤ 4096 := by omega
              obtain ⟨df, hdf⟩ : ∃ df, df = y - x := ⟨_, rfl⟩
              have hdf' : y - x = df := hdf.symm
              have hdb1 : -4096 ≤ df := by omega
              have hdb2 : df ≤ 3000000000 := by omega
              have HDF := hide hdf
              clear hyr hy hbl4 hlj hdf
              by_cases h0 : 0 ≤ df
              · go_wp2_with (at_builtin; (refine wpList_append_rd _ rfl (.tmp 59) (.tmp 66) 22 rfl wo.heap.size 3 i0 _ 1 8 Try.underlying22 hi0 hz0 hz1 hz2 rfl (by omega) u12 (begs (l.take j) x).length ((begs (l.take j) x).map iv) rfl (HB.out.kept (gb_alloc' _ _ none) (by cases u12.ownBlock <;> simp)) _ 1 1 [iv df] rfl rfl (rd_lit _ _ _ _) (one_iv [df]) (by simp only [maxLen]; omega) (by omega) (by have := hbi.size; simp; omega) ?_); intro v6 w6 hown6 hg6 hat6)
                go_roundw
                case rel =>
                  refine ⟨j + 1, by go_num, by omega, hide ?_, bl_grown (bl_alloc hbi _) hg6 (fun j' hj' => (HB.out.lt j' hj').1)⟩
                  rw [begs_yes HY.out (by rw [← HDF.out]; exact h0), List.map_append, List.length_append, ← HDF.out]
                  exact hown6
                case measure => simp [intOf]; omega
              · go_wp2
                go_roundw
                case rel =>
                  refine ⟨j + 1, by go_num, by omega, hide ?_, hbi⟩
                  rw [begs_no HY.out (by rw [← HDF.out]; exact h0)]
                  exact HB.out
                case measure => simp [intOf]; omega
            · obtain rfl : j = m := by omega
              have hbfull : wr.ownsRow wo.heap.size 3 1 u12 (begs l x).length ((begs l x).map iv) := by
                have := HB.out
                rwa [List.take_of_length_le (by rw [← HMM.out]; exact Nat.le_refl _)] at this
              have hbb : (begs l x).length ≤ 4096 := by have := begs_len l x; rw [← HMM.out] at this; omega
              have HBF := hide hbfull
              have HO2 := hide (own_below HO.out hbi)
              have hb0 : Below w.heap.size w wr := hbo.trans (hbi.mono hbo.size)
              have htk : (ls.zip os).take (q + 1) = (ls.zip os).take q ++ [(l, x)] := by rw [List.take_add_one, HZIP.out]; rfl
              have HTK := hide htk
              clear hbfull hlj htk
              rcases q with _ | q
              · go_wp2
                go_roundw
                case rel => exact ⟨1, begs l x, rfl, by omega, hide (by rw [HTK.out]; simp [phrP]), hide (asc_begs HLV.out.2.2 x), hbb, hide (own_base HBF.out hbo.size), hb0⟩
                case measure => simp [intOf]; omega
              · have hq0 : (((q + 1 : Nat) : Int) == 0) = false := by rw [beq_eq_false_iff_ne]; omega
                obtain ⟨a5, c5, rfl, hc5, hm5, hi5⟩ := own_isI HO2.out rfl
                obtain ⟨a6, c6, rfl, hc6, hm6, hi6⟩ := own_isI HBF.out rfl
                have HI5 := hide hi5
                have HI6 := hide hi6
                clear hi5 hi6
                go_wp2_with fail
                refine (split_any a5 a6 _ c5 _ c6 out (begs l x) wr HI5.out HI6.out hc5 hc6 hm6 HASC.out (asc_begs HLV.out.2.2 x) (by omega) (by omega)).mono ?_
                rintro e w6 ⟨v1, v2, rfl, hown1, _, hb6⟩
                have HO6 := hide (own_base hown1 hb0.size)
                have hb06 := hb0.trans (hb6.mono hb0.size)
                clear hown1
                go_wp2
                go_roundw
                case rel =>
                  refine ⟨q + 1 + 1, both out (begs l x), by go_num, by omega, hide ?_, hide (asc_both HASC.out _), Nat.le_trans (List.length_filter_le _ _) hol, HO6, hb06⟩
                  rw [HTK.out, phrP_snoc _ _ (by
                    intro h
                    have h2 := congrArg List.length h
                    have h3 := (List.getElem?_eq_some_iff.1 HZIP.out).1
                    rw [List.length_take] at h2
                    simp only [List.length_nil] at h2
                    omega), ← HOUT.out]
                case measure => simp [intOf]; omega
        · obtain rfl : q = k := by omega
          have hfull : (ls.zip os).take q = ls.zip os := List.take_of_length_le (by rw [List.length_zip, ← HN.out, ← HM.out]; omega)
          have hout : phrP (ls.zip os) = out := by rw [HOUT.out, hfull]
          have HOT := hide hout
          clear hfull hout
          go_wp2
          go_ret2
          exact ⟨⟨u9, by rw [HR.out]; rfl, by rw [HR.out, HOT.out]; exact HO.out⟩, hbo⟩
end Go.Proofs.Ytbicpnhgokngeaa
