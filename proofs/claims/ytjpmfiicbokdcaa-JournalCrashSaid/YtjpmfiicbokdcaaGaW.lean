/- The plain law and the walk of JournalCrash: records on a disk that crashes. -/
import Derived.Test.YtjpmfiicbokdcaaEfW
import Derived.Test.YtjpmfiicbokdcaaDzW
import Derived.Test.YtjpmfiicbokdcaaJd
namespace Go.Proofs.Ytjpmfiicbokdcaa
open Go.RowKit
set_option linter.unusedVariables false
set_option linter.unusedSimpArgs false
namespace journalCrash
theorem isD_four {w : World} {u : Value} {d : Dsk} (h : IsD w u d) : ∃ a1 n1 c1 a2 n2 c2 a3 n3 c3 a4 n4 c4, u = .agg #[.slice a1 n1 c1, .slice a2 n2 c2, .slice a3 n3 c3, .slice a4 n4 c4] := by
  obtain ⟨a1, n1, c1, a2, n2, c2, a3, n3, c3, a4, n4, c4, h, -⟩ := h.h
  exact ⟨a1, n1, c1, a2, n2, c2, a3, n3, c3, a4, n4, c4, h⟩
theorem IsRecs.takeN {w : World} {a : Option Addr} {n : Nat} {l : List Rec} (h : IsRecs w a n l) (k : Nat) (hk : k ≤ n) : IsRecs w a k (l.take k) := by
  obtain ⟨h1, h2⟩ := h
  refine ⟨by simp; omega, ?_⟩
  have h3 := h2.take (k * 2)
  rwa [flat_take (enc := recC) (s := 2) (fun _ => rfl)] at h3
def joOps (A B : List UInt8) : List DOp := [(1, [106], [], []), (2, [106], [], A), (3, [106], [], []), (6, [], [], []), (2, [106], [], B)]
def joD (A B : List UInt8) : Dsk := ⟨[(A ++ B, (A.length : Int))], [([106], 0)], [([106], 0)], []⟩
theorem jo_go (A B : List UInt8) (h : A.length + B.length ≤ 1048576) : goM .nil (joOps A B) = (joD A B, 0) ∧ validM (joD A B) = true := by
  have e1 : applyM .nil (1, [106], [], []) = (⟨[([], 0)], [([106], 0)], [], [(1, [106], [], [])]⟩, 0) := by decide
  have v1 : validM ⟨[([], 0)], [([106], 0)], [], [(1, [106], [], [])]⟩ = true := by decide
  have ap : ∀ {d : Dsk} (o : DOp), validM d = true → applyM d o = appM d o := fun o hv => by unfold applyM; rw [if_pos hv]
  have a2 : appM ⟨[([], 0)], [([106], 0)], [], [(1, [106], [], [])]⟩ (2, [106], [], A) = (⟨[(A, 0)], [([106], 0)], [], [(1, [106], [], [])]⟩, 0) := by
    unfold appM
    simp [fieldsM, hasM, inoM]
    omega
  have v2 : validM ⟨[(A, 0)], [([106], 0)], [], [(1, [106], [], [])]⟩ = true := by
    have := valid_app v1 (2, [106], [], A) (by rw [a2])
    rwa [a2] at this
  have a3 : appM ⟨[(A, 0)], [([106], 0)], [], [(1, [106], [], [])]⟩ (3, [106], [], []) = (⟨[(A, (A.length : Int))], [([106], 0)], [], [(1, [106], [], [])]⟩, 0) := by
    unfold appM
    simp [fieldsM, hasM, inoM]
  have v3 : validM ⟨[(A, (A.length : Int))], [([106], 0)], [], [(1, [106], [], [])]⟩ = true := by
    have := valid_app v2 (3, [106], [], []) (by rw [a3])
    rwa [a3] at this
  have a4 : appM ⟨[(A, (A.length : Int))], [([106], 0)], [], [(1, [106], [], [])]⟩ (6, [], [], []) = (⟨[(A, (A.length : Int))], [([106], 0)], [([106], 0)], []⟩, 0) := by
    unfold appM
    simp [fieldsM, setM, keptM, usedM, movM, atM]
  have v4 : validM ⟨[(A, (A.length : Int))], [([106], 0)], [([106], 0)], []⟩ = true := by
    have := valid_app v3 (6, [], [], []) (by rw [a4])
    rwa [a4] at this
  have a5 : appM ⟨[(A, (A.length : Int))], [([106], 0)], [([106], 0)], []⟩ (2, [106], [], B) = (joD A B, 0) := by
    unfold appM joD
    simp [fieldsM, hasM, inoM]
    omega
  refine ⟨?_, ?_⟩
  · unfold joOps
    simp only [goM, e1, ap _ v1, a2, ap _ v2, a3, ap _ v3, a4, ap _ v4, a5]
    simp
  · have := valid_app v4 (2, [106], [], B) (by rw [a5])
    rwa [a5] at this
/-- What is read after a crash. -/
theorem jo_read (A B : List UInt8) (h : A.length + B.length ≤ 1048576) (ch : List Int) : ∃ n z : Nat, A.length ≤ n - z ∧ n ≤ A.length + B.length ∧ z ≤ n ∧ z ≤ 4 ∧ readM (crashM (joD A B) ch) [106] = ((A ++ B).take (n - z) ++ List.replicate z 0, 0) := by
  have hv := (jo_go A B h).2
  obtain ⟨q0, q1, q2, q3, q4⟩ := cut_range (ch := ch) (j := 0) (e := (A ++ B, (A.length : Int))) (by simp) (by simp; omega)
  simp only [List.length_append] at q1
  obtain ⟨p, hp⟩ := Int.eq_ofNat_of_zero_le q0
  obtain ⟨z, hz⟩ := Int.eq_ofNat_of_zero_le q2
  have hc : crashM (joD A B) ch = ⟨[cutM ch 0 (A ++ B, (A.length : Int))], [([106], 0)], [([106], 0)], []⟩ := by
    unfold crashM
    rw [if_pos hv]
    simp [joD, cutK, repM, setM, keptM, usedM, movM, atM]
  have hr : readM (crashM (joD A B) ch) [106] = ((cutM ch 0 (A ++ B, (A.length : Int))).1, 0) := by
    have hvc := valid_crash (joD A B) ch
    unfold readM
    rw [hvc, hc]
    simp [hasM, inoM]
  refine ⟨A.length + p, z, by omega, by omega, by omega, by omega, ?_⟩
  rw [hr]
  unfold cutM
  rw [hp, hz]
  simp only [Prod.mk.injEq, and_true]
  rw [show ((A.length : Int) + (p : Int) - (z : Int)).toNat = A.length + p - z by omega, Int.toNat_natCast]
/-- The records that are found. -/
theorem jo_law (x y r : List Rec) (rest : List UInt8) (n z : Nat) (hx : ∀ q ∈ x, okR q) (hy : ∀ q ∈ y, okR q) (h1 : (encL x).length ≤ n - z) (h2 : n ≤ (encL x).length + (encL y).length) (h3 : z ≤ n) (h4 : z ≤ 4) (hs : IsScan ((encL x ++ encL y).take (n - z) ++ List.replicate z 0) r rest) :
    r <+: x ++ y ∧ stateM rest ≠ 2 ∧ x.length ≤ r.length := by
  rw [← encL_app] at hs
  obtain ⟨k1, k2, k3⟩ := torn_law (x ++ y) n z r rest (fun q hq => (List.mem_append.1 hq).elim (hx q) (hy q)) (by rw [encL_app, List.length_append]; exact h2) h3 h4 hs
  refine ⟨k1, k2, ?_⟩
  rcases Nat.lt_or_ge r.length x.length with hl | hl
  · exfalso
    have h5 := k3 (by rw [List.length_append]; omega)
    rw [List.take_append_of_le_length (by omega)] at h5
    have h6 : (encL (x.take (r.length + 1))).length ≤ (encL x).length := by
      have e : encL x = encL (x.take (r.length + 1)) ++ encL (x.drop (r.length + 1)) := by rw [← encL_app, List.take_append_drop]
      rw [e, List.length_append]; omega
    omega
  · exact hl
set_option maxHeartbeats 8000000 in
set_option maxRecDepth 100000 in
theorem walk (a : Option Addr) (len cap : Nat) (z : List Int) (b : Option Addr) (len1 cap1 : Nat) (z1 : List Int) (ca : Option Addr) (cn cc : Nat) (cz : List Int) (w : World) (w0 : IsRow .i64 w a len cap z) (w1 : IsRow .i64 w b len1 cap1 z1) (v0 : IsRow .i64 w ca cn cc cz) :
    Calls Try.prog 12 #[.slice a len cap, .slice b len1 cap1, .slice ca cn cc] w fun e w' => e = .returned (.bool true) ∧ Below w.heap.size w w' := by
  obtain ⟨zs, hl, hr, hc, hm, _, _⟩ := w0.ints
  obtain ⟨ys, hl1, hr1, hc1, hm1, _, _⟩ := w1.ints
  obtain ⟨ch, hl2, hr2, hc2', hm2, _, _⟩ := v0.ints
  have HL := hide hl.symm
  have HR := hide hr
  have HL1 := hide hl1.symm
  have HR1 := hide hr1
  have HCL := hide hl2.symm
  have HCR := hide hr2
  obtain ⟨i0, hi0, hz0, hz1, hz2⟩ := info_parts info_rec2
  clear hl hr hl1 hr1 hl2 hr2 w0 w1 v0
  go_enter Try.func12, Try.ntmps12
  go_wp2_with fail
  refine (tnew_any a len cap zs w HL.out hc hm HR.out).mono ?_
  rintro e w1 ⟨rfl, ht1, hb1⟩
  go_wp2_with fail
  refine (lrec_any w.heap.size 4 4 w1 rfl (by decide) ht1).mono ?_
  rintro e w2 ⟨v, l, rfl, hown, hsm, hll, hg⟩
  have hb2 : Below w.heap.size w w2 := bl_grown hb1 hg (fun k h => by cases h; exact Nat.le_refl _)
  obtain ⟨a2, c2, rfl, hc2, hrec⟩ := own_recs hown rfl
  have HREC := hide hrec
  have HSM := hide hsm
  clear ht1 hown hg hrec hsm hb1
  go_wp2_with fail
  refine (tnew_any b len1 cap1 ys w2 HL1.out hc1 hm1 (HR1.out.below hb2)).mono ?_
  rintro e w3 ⟨rfl, ht3, hb3⟩
  go_wp2_with fail
  refine (lrec_any w2.heap.size 4 4 w3 rfl (by decide) ht3).mono ?_
  rintro e w4 ⟨v4, m, rfl, hown4, hsm4, hll4, hg4⟩
  have hb24 : Below w2.heap.size w2 w4 := bl_grown hb3 hg4 (fun k h => by cases h; exact Nat.le_refl _)
  obtain ⟨a4, c4, rfl, hc4, hrec4⟩ := own_recs hown4 rfl
  have HREC4 := hide hrec4
  have HRECL := hide (HREC.out.below hb24)
  have HSM4 := hide hsm4
  have hb4 := bl_trans hb2 hb24
  have HAM := hide (all_small HSM.out)
  have HAM4 := hide (all_small HSM4.out)
  have hlen1 := small_len HSM.out
  have hlen2 := small_len hsm4
  have HLE := hide (show (encL l).length + (encL m).length ≤ 1000 by omega)
  clear ht3 hown4 hg4 hrec4 hsm4 hb3 hlen1 hlen2
  obtain ⟨A, hA⟩ : ∃ A, A = encL l := ⟨_, rfl⟩
  obtain ⟨B, hB⟩ : ∃ B, B = encL m := ⟨_, rfl⟩
  rw [← hA] at HAM
  rw [← hB] at HAM4
  rw [← hA, ← hB] at HLE
  have HA := hide hA
  have HB := hide hB
  clear hA hB
  go_wp2_with fail
  refine (ea_any a2 l.length c2 l w4 HRECL.out (small_p HSM.out) (by omega)).mono ?_
  rintro e w5 ⟨rfl, hb5⟩
  rw [HAM.out]
  go_wp2_with fail
  refine (ea_any a4 m.length c4 m w5 (HREC4.out.below hb5) (small_p HSM4.out) (by omega)).mono ?_
  rintro e w6 ⟨rfl, hb6⟩
  rw [HAM4.out]
  have hb46 := bl_trans hb5 hb6
  have HRL6 := hide (HRECL.out.below hb46)
  have HRM6 := hide (HREC4.out.below hb46)
  have LB6 := hide (bl_trans hb4 hb46)
  clear hb5 hb6 hb4 hb24 hb2 hb46 HREC HREC4 HRECL
  obtain ⟨wa, hwa⟩ : ∃ wa, wa = w6.alloc (.cells ((joOps A B).flatMap encO).toArray 48) := ⟨_, rfl⟩
  have hbw : Below w6.heap.size w6 wa := by rw [hwa]; exact bl_alloc (bl_refl w6) _
  have OB := hide (show Blk wa w6.heap.size ((joOps A B).flatMap encO) 48 by rw [hwa]; exact Blk.new w6 _ _)
  have HAP := applyall_any nilD .nil (some ⟨w6.heap.size, 0, none⟩) 5 5 (joOps A B) 0 wa (isD_nil _) ⟨rfl, OB.out.rd⟩ ⟨Nat.le_refl _, Nat.le_refl _, Nat.le_refl _, Nat.le_refl _⟩ (by show 0 + 5 ≤ 90000; decide) (fun o ho => by
    have := HLE.out
    simp [joOps] at ho
    rcases ho with rfl | rfl | rfl | rfl | rfl <;> simp <;> omega)
  rw [show allM .nil (joOps A B) = (joD A B, 0) by unfold allM; rw [if_pos valid_nil]; exact (jo_go A B (by have := HLE.out; omega)).1] at HAP
  unfold nilD at HAP
  have HAQ := hide HAP
  have HRL7 := hide (HRL6.out.below hbw)
  have HRM7 := hide (HRM6.out.below hbw)
  have LB7 := hide (bl_trans LB6.out hbw)
  have HWA := hide hwa.symm
  clear hwa hbw HAP HRL6 HRM6 LB6 OB
  go_wp2_with fail
  have hap := HAQ.out
  rw [← HWA.out] at hap
  refine hap.mono ?_
  rintro e w7 ⟨u, rfl, hu, hb⟩
  have hb : Below wa.heap.size wa w7 := by rw [← HWA.out]; exact hb
  clear hap HWA HAQ
  obtain ⟨b1, m1, q1, b2, m2, q2, b3, m3, q3, b4, m4, q4, rfl⟩ := isD_four hu
  obtain ⟨wb, hwb⟩ : ∃ wb, wb = w7.alloc (.cells [.slice b1 m1 q1, .slice b2 m2 q2, .slice b3 m3 q3, .slice b4 m4 q4].toArray 27) := ⟨_, rfl⟩
  obtain ⟨X, hX⟩ : ∃ X, X = w7.heap.size := ⟨_, rfl⟩
  have hbw : Below w7.heap.size w7 wb := by rw [hwb]; exact bl_alloc (bl_refl w7) _
  have hba := bl_trans hb hbw
  have XB := hide (show Blk wb X [.slice b1 m1 q1, .slice b2 m2 q2, .slice b3 m3 q3, .slice b4 m4 q4] 27 by rw [hwb, hX]; exact Blk.new w7 _ _)
  have XI := hide (hu.below hbw)
  have HRL := hide (HRL7.out.below hba)
  have HRM := hide (HRM7.out.below hba)
  have LB := hide (bl_trans LB7.out hba)
  have HXX := hide hX.symm
  have HWB := hide hwb.symm
  clear hwb hX hbw hba hb hu HRL7 HRM7 LB7
  have hjv := (jo_go A B (by have := HLE.out; omega)).2
  have hszK : szK 10 (joD A B) := ⟨by simp [joD], by simp [joD], by simp [joD], by simp [joD]⟩
  have HSZ := hide hszK
  have hev : errM (joD A B) = 0 := by unfold errM; rw [if_pos hjv]
  obtain ⟨n, zz, hn1, hn2, hn3, hn4, hrd⟩ := jo_read A B (by have := HLE.out; omega) ch
  obtain ⟨s, hs⟩ : ∃ s, s = (A ++ B).take (n - zz) ++ List.replicate zz 0 := ⟨_, rfl⟩
  rw [← hs] at hrd
  have hsl : s.length ≤ 2000 := by
    have := HLE.out
    rw [hs, List.length_append, List.length_take, List.length_replicate, List.length_append]
    omega
  obtain ⟨y, rest, hsc⟩ := exists_scan 2000 s hsl
  have hlaw := jo_law l m y rest n zz (fun q hq => small_ok (HSM.out q hq)) (fun q hq => small_ok (HSM4.out q hq)) (by rw [← HA.out]; exact hn1) (by rw [← HA.out, ← HB.out]; exact hn2) hn3 hn4 (by rw [← HA.out, ← HB.out, ← hs]; exact hsc)
  obtain ⟨hpre, hst2, hge⟩ := hlaw
  have HC1 := crash_any _ (joD A B) ca cn cc ch wb XI.out ⟨Nat.le_trans hszK.1 (by decide), Nat.le_trans hszK.2.1 (by decide), Nat.le_trans hszK.2.2.1 (by decide), Nat.le_trans hszK.2.2.2 (by decide)⟩ (HCR.out.below LB.out) HCL.out
  have hcs : szD (crashM (joD A B) ch) := by
    unfold crashM
    rw [if_pos hjv]
    refine ⟨?_, ?_, ?_, ?_⟩
    · exact Nat.le_trans (kept_le _ _ _) (by simp [joD, cutK])
    · simp [setM, movM, joD, repM]
    · simp [setM, movM, joD, repM]
    · simp [setM]
  have HRD := hide (fun (u : Value) (wx : World) (hu : IsD wx u (crashM (joD A B) ch)) => read_any u _ [106] wx hu hcs)
  rw [hrd] at HRD
  have HVA := hide (fun (wx : World) (hb : Below wb.heap.size wb wx) => rvalidate_any _ _ wx (XI.out.below hb) (hszK.szD (by decide)))
  rw [hev] at HVA
  have HCA := hide HC1
  obtain ⟨S, hS⟩ : ∃ S, S = bstr s := ⟨_, rfl⟩
  have HSN := hide (fun (wx : World) => scan_any S s y rest wx hS (by omega) hsc)
  obtain ⟨at_, hat⟩ : ∃ at_, at_ = (encL y).length := ⟨_, rfl⟩
  obtain ⟨st, hst⟩ : ∃ st, st = stateM rest := ⟨_, rfl⟩
  rw [← hat, ← hst] at HSN
  rw [← hst] at hst2
  simp only [] at HRD
  rw [← hS] at HRD
  have HPRE := hide hpre
  have hyl : y.length ≤ l.length + m.length := by have := hpre.length_le; rwa [List.length_append] at this
  clear hjv hev hszK HC1 hs hsl hsc hpre hn1 hn2 hn3 hn4 hrd hS hat hst hcs
  go_wp2_with fail
  rw [HWB.out, HXX.out]
  clear HWB HXX
  refine HCA.out.mono ?_
  rintro e w8 ⟨u, rfl, hu, hb8⟩
  have HR8 := hide (HRD.out u w8 hu)
  have B8 := hide hb8
  clear hu hb8 HCA
  go_wp2_with fail
  refine HR8.out.mono ?_
  rintro e w9 ⟨rfl, hb9⟩
  have B9 := hide (bl_trans B8.out hb9)
  have X9 := hide (XB.out.below B9.out)
  clear hb9 HR8 B8
  have xy0 : w9.cell? ⟨X, 0, none⟩ = some _ := X9.out.cell rfl
  have xy1 : w9.cell? ⟨X, 1, none⟩ = some _ := X9.out.cell rfl
  have xy2 : w9.cell? ⟨X, 2, none⟩ = some _ := X9.out.cell rfl
  have xy3 : w9.cell? ⟨X, 3, none⟩ = some _ := X9.out.cell rfl
  have xl := X9.out.lt
  go_wp2_with fail
  clear xy0 xy1 xy2 xy3 xl X9
  refine (HVA.out w9 B9.out).mono ?_
  rintro e w10 ⟨rfl, hb10⟩
  have B10 := hide (bl_trans B9.out hb10)
  clear hb10 B9
  go_wp2_with fail
  refine (HSN.out w10).mono ?_
  rintro e w11 ⟨v11, rfl, hown11, hb11⟩
  obtain ⟨a7, c7, rfl, hc7, hrec7⟩ := own_recs hown11 rfl
  have B11 := bl_trans B10.out hb11
  have HRY := hide hrec7
  have HRL11 := hide (HRL.out.below B11)
  have HRM11 := hide (HRM.out.below B11)
  have LB11 := hide (bl_trans LB.out B11)
  clear hown11 hb11 hrec7 B11 B10 HRL HRM LB XB XI HVA HSN HRD
  obtain ⟨yl, hyy⟩ : ∃ yl, yl = y.length := ⟨_, rfl⟩
  rw [← hyy] at hge hyl hc7 ⊢
  have HYY := hide hyy
  clear hyy
  have own0 : (w11.alloc (.cells #[] 90)).ownsRow w11.heap.size 90 2 (.slice (some ⟨w11.heap.size, 0, none⟩) 0 0) 0 [] := own_empty (Nat.le_refl _) (heap_alloc_new w11 _)
  have one2 : ∀ l : List Rec, ∀ u ∈ l.flatMap recC, u.oneCell' = true := fun l u hu => by
    obtain ⟨r, _, hr⟩ := List.mem_flatMap.1 hu
    simp [recC] at hr
    rcases hr with rfl | rfl <;> rfl
  go_wp2_with (first
    | (at_builtin; (refine wpList_append_rd _ rfl (.tmp 74) (.tmp 75) 60 rfl w11.heap.size 90 i0 _ 2 24 Try.underlying60 hi0 hz0 hz1 hz2 rfl (by omega) _ 0 [] rfl own0 a2 l.length c2 (l.flatMap recC) rfl (recs_length l) (HRL11.out.2.alloc _) (one2 l) (by simp only [maxLen]; omega) (by omega) (by simp) ?_); intro v12 w12 hown12 hg12 hat12)
    | (at_builtin; (refine wpList_append_rd _ rfl (.tmp 76) (.tmp 77) 60 rfl w11.heap.size 90 i0 _ 2 24 Try.underlying60 hi0 hz0 hz1 hz2 rfl (by omega) v12 (0 + l.length) ([] ++ l.flatMap recC) rfl hown12 a4 m.length c4 (m.flatMap recC) rfl (recs_length m) (HRM11.out.2.below (bl_grown (bl_alloc (bl_refl w11) _) hg12 (fun k h => by cases h; exact Nat.le_refl _))) (one2 m) (by simp only [maxLen]; omega) (by omega) (by have := hg12.size; simp at this; omega) ?_); intro v13 w13 hown13 hg13 hat13))
  have hb12 : Below w11.heap.size w11 w12 := bl_grown (bl_alloc (bl_refl w11) _) hg12 (fun k h => by cases h; exact Nat.le_refl _)
  have hb13 : Below w11.heap.size w11 w13 := bl_grown hb12 hg13 (fun k h => (hown12.lt k h).1)
  have hown14 : w13.ownsRow w11.heap.size 90 2 v13 (l ++ m).length ((l ++ m).flatMap recC) := by
    rw [List.flatMap_append, List.length_append]
    simpa using hown13
  obtain ⟨a8, c8, rfl, hc8, hrec8⟩ := own_recs hown14 rfl
  have HREC8 := hide hrec8
  have HRY13 := hide (HRY.out.below hb13)
  have LB13 := hide (bl_trans LB11.out hb13)
  obtain ⟨al, hal⟩ : ∃ al, al = (l ++ m).length := ⟨_, rfl⟩
  have hal2 : al = l.length + m.length := by rw [hal, List.length_append]
  rw [← hal] at hc8 HREC8
  clear hown12 hown13 hown14 hg12 hg13 hat12 hat13 hrec8 hb12 hb13 HRL11 HRM11 LB11 HRY
  have g1 : ¬ (yl : Int) < (l.length : Int) := by omega
  have g2 : ¬ (al : Int) < (yl : Int) := by omega
  have g3 : ¬ (st : Int) = 2 := by omega
  have g3' : ((st : Int) == 2) = false := by rw [beq_eq_false_iff_ne]; exact g3
  have g4 : (yl : Int) ≤ (c8 : Int) := by omega
  have g4' : yl ≤ c8 := by omega
  have HTK := hide (IsRecs.takeN HREC8.out yl (by omega))
  rw [show (l ++ m).take yl = y by rw [HYY.out]; exact (List.prefix_iff_eq_take.1 HPRE.out).symm] at HTK
  have HSM2 := hide (same_any a7 a8 yl c7 c8 y w13 (by rw [HYY.out]; exact HRY13.out) HTK.out (by omega) hc7 g4')
  clear hal hal2
  go_wp2_with fail
  refine HSM2.out.mono ?_
  rintro e w14 ⟨rfl, hb14⟩
  have LB14 := hide (bl_trans LB13.out hb14)
  clear hb14
  go_wp2_with fail
  refine (known_any w14).mono ?_
  rintro e w15 ⟨rfl, hb15⟩
  go_wp2
  go_ret
  exact ⟨rfl, bl_trans LB14.out hb15⟩
end journalCrash
end Go.Proofs.Ytjpmfiicbokdcaa
