/- The walk of DiskAll. -/
import Derived.Test.YtjpmfiicbokdcaaFdW
namespace Go.Proofs.Ytjpmfiicbokdcaa
open Go.RowKit
set_option linter.unusedVariables false
set_option linter.unusedSimpArgs false
theorem RO.set4 {w : World} {a : Option Addr} {n g : Nat} {l : List DOp} {cs : List Value} {t : TypeId} (h : RO w a n l) (hb : Blk w g cs t) (hc : AllSl cs) {p0 p1 p2 p3 : Value} (h0 : isSl p0 = true) (h1 : isSl p1 = true) (h2 : isSl p2 = true) : RO (Go.Proofs.Ytjpmfiicbokdcaa.set4 w g p0 p1 p2 p3) a n l :=
  (((h.setSl hb hc).setSl (hb.set 0 _) (hc.set 0 h0)).setSl ((hb.set 0 _).set 1 _) ((hc.set 0 h0).set 1 h1)).setSl (((hb.set 0 _).set 1 _).set 2 _) (((hc.set 0 h0).set 1 h1).set 2 h2)
namespace diskAll
set_option maxHeartbeats 4000000 in
set_option maxRecDepth 100000 in
theorem walk (a : Option Addr) (len cap : Nat) (z : List Int) (w : World) (w0 : IsRow .i64 w a len cap z) :
    Calls Try.prog 10 #[.slice a len cap] w fun e w' => e = .returned (.bool true) ∧ Below w.heap.size w w' := by
  obtain ⟨zs, hl, hr, hc, hm, _, _⟩ := w0.ints
  obtain ⟨j0, hj0, hy0, hy1, hy2⟩ := info_parts info_op
  have HL := hide hl.symm
  have HR := hide hr
  clear hl hr w0
  go_enter Try.func10, Try.ntmps10
  go_wp2_with fail
  refine (tnew_any a len cap zs w HL.out hc hm HR.out).mono ?_
  rintro e w1 ⟨rfl, ht1, hb1⟩
  obtain ⟨g, hg⟩ : ∃ g, g = w.heap.size := ⟨_, rfl⟩
  rw [← hg] at ht1 ⊢
  have hgw : w.heap.size ≤ g := by omega
  have HT1 := hide ht1
  have HB1 := hide hb1
  obtain ⟨G, hG⟩ : ∃ G, G = w1.heap.size := ⟨_, rfl⟩
  have hgG : g < G := by rw [hG]; exact ht1.lt
  have HGG := hide hG
  clear ht1 hb1 hg hG
  go_wp2_with fail
  refine (deal_any g 10 w1 HT1.out (by decide) (by decide)).mono ?_
  rintro e w2 ⟨n, rfl, hn0, hn1, ht2, hg2⟩
  obtain ⟨n, rfl⟩ := Int.eq_ofNat_of_zero_le hn0
  have hn10 : n ≤ 10 := by omega
  have HB2 := hide (bl_tape HB1.out hg2 hgw)
  have HT2 := hide ht2
  have HS2 := hide (show G ≤ w2.heap.size by rw [HGG.out]; exact hg2.size)
  clear ht2 hg2 hn0 hn1 HT1 HB1 HGG
  go_wp2_with fail
  go_loopw [4, 5] (fun s i wr => ∃ (k : Nat) (l : List DOp), i = .int .i64 (k : Int) ∧ k + l.length ≤ 10 ∧ Hid (∀ o ∈ l, o.2.2.2.length ≤ 5) ∧ Hid (wr.ownsRow G 48 4 s l.length (l.flatMap encO)) ∧ Hid (G ≤ wr.heap.size) ∧ Hid (IsTape wr g) ∧ Hid (Below w.heap.size w wr)) (fun _ i _ => (intOf i).toNat)
  case atStart => exact ⟨n, [], rfl, by simpa using hn10, hide (fun r h => by simp at h), hide (World.ownsRow_nil _ _ _ _), HS2, HT2, HB2⟩
  case round =>
    clear HS2 HT2 HB2
    obtain ⟨k, l, rfl, hkl, HSM, HO, HSZ, HTP, HB⟩ := hrel
    rcases k with _ | k
    · obtain ⟨b, q, rfl, hq, hrd⟩ := ownG_form HO.out
      obtain ⟨N, hN⟩ : ∃ N, N = l.length := ⟨_, rfl⟩
      have HN := hide hN
      have hN10 : N ≤ 10 := by omega
      rw [← hN]
      have HRO := hide (show RO wr b N l from ⟨hN, hrd⟩)
      have HAP := applyall_any nilD .nil b N q l 0 wr (isD_nil _) HRO.out ⟨Nat.le_refl _, Nat.le_refl _, Nat.le_refl _, Nat.le_refl _⟩ (by omega) (fun o ho => by have := HSM.out o ho; omega)
      obtain ⟨r, hr⟩ : ∃ r, r = allM .nil l := ⟨_, rfl⟩
      rw [← hr] at HAP
      have HRR := hide (show r = goM .nil (l.drop 0) from hr)
      unfold nilD at HAP
      have HAQ := hide HAP
      clear hr HAP hrd HO HSZ HTP hN hq
      go_wp2_with fail
      refine HAQ.out.mono ?_
      rintro e w3 ⟨u, rfl, hu, hb3⟩
      obtain ⟨a1, n1, c1, a2, n2, c2, a3, n3, c3, a4, n4, c4, rfl⟩ := hu.four
      obtain ⟨wa, hwa⟩ : ∃ wa, wa = (w3.alloc (.cells [.slice a1 n1 c1, .slice a2 n2 c2, .slice a3 n3 c3, .slice a4 n4 c4].toArray 27)).alloc (.cells [.slice none 0 0, .slice none 0 0, .slice none 0 0, .slice none 0 0].toArray 27) := ⟨_, rfl⟩
      obtain ⟨A, hA⟩ : ∃ A, A = w3.heap.size := ⟨_, rfl⟩
      have hbw : Below w3.heap.size w3 wa := by rw [hwa]; exact bl_alloc (bl_alloc (bl_refl w3) _) _
      have AB := hide (show Blk wa A [.slice a1 n1 c1, .slice a2 n2 c2, .slice a3 n3 c3, .slice a4 n4 c4] 27 by rw [hwa, hA]; exact (Blk.new w3 _ _).alloc _)
      have DB := hide (show BxD wa (A + 1) .nil by rw [hwa, hA]; exact BxD.nil (Blk.newG (by simp) _ _))
      have AI := hide (hu.below hbw)
      have LB := hide (show Below w.heap.size w wa from bl_trans (bl_trans HB.out hb3) hbw)
      have RB := hide ((HRO.out.below hb3).below hbw)
      have hwA : w.heap.size ≤ A := by rw [hA]; exact (bl_trans HB.out hb3).size
      have HAA := hide hA.symm
      have HWA := hide hwa.symm
      clear hA hwa hbw hu hb3 HB HRO HAQ
      go_wp2_with fail
      rw [HWA.out, HAA.out]
      clear HWA HAA
      go_loopw [34] (fun kv wr => ∃ (k : Nat) (d : Dsk), kv = .int .i64 (k : Int) ∧ k ≤ N ∧ Hid (Blk wr A [.slice a1 n1 c1, .slice a2 n2 c2, .slice a3 n3 c3, .slice a4 n4 c4] 27) ∧ Hid (IsD wr (.agg #[.slice a1 n1 c1, .slice a2 n2 c2, .slice a3 n3 c3, .slice a4 n4 c4]) r.1) ∧ Hid (BxD wr (A + 1) d) ∧ Hid (goodD k d) ∧ Hid (r = goM d (l.drop k)) ∧ Hid (RO wr b N l) ∧ Hid (Below w.heap.size w wr)) (fun kv _ => N - (intOf kv).toNat)
      case atStart => exact ⟨0, .nil, rfl, by omega, AB, AI, DB, hide ⟨valid_nil, Nat.zero_le _, Nat.zero_le _, Nat.zero_le _, Nat.zero_le _⟩, HRR, RB, LB⟩
      case round =>
        clear AB AI DB HRR RB LB
        obtain ⟨k, d, rfl, hk, AB, AI, DB, HGD, HRR, RB, LB⟩ := hrel
        obtain ⟨b1, m1, q1, b2, m2, q2, b3, m3, q3, b4, m4, q4, hb1, hd1⟩ := DB.out
        have D1 := hide hb1
        have HD1 := hide hd1
        clear hb1 hd1
        have xy0 : wr.cell? ⟨A, 0, none⟩ = some _ := AB.out.cell rfl
        have xy1 : wr.cell? ⟨A, 1, none⟩ = some _ := AB.out.cell rfl
        have xy2 : wr.cell? ⟨A, 2, none⟩ = some _ := AB.out.cell rfl
        have xy3 : wr.cell? ⟨A, 3, none⟩ = some _ := AB.out.cell rfl
        have xl := AB.out.lt
        have yy0 : wr.cell? ⟨A + 1, 0, none⟩ = some _ := D1.out.cell rfl
        have yy1 : wr.cell? ⟨A + 1, 1, none⟩ = some _ := D1.out.cell rfl
        have yy2 : wr.cell? ⟨A + 1, 2, none⟩ = some _ := D1.out.cell rfl
        have yy3 : wr.cell? ⟨A + 1, 3, none⟩ = some _ := D1.out.cell rfl
        have yl := D1.out.lt
        by_cases hlt : k < N
        · obtain ⟨b, o, kd, s, t, dd, rfl, hbl, hx, p0, p1, p2, p3⟩ := RB.out.at_ hlt
          have hkn : (k : Int) < (N : Int) := by omega
          have hdr : l.drop k = (kd, s, t, dd) :: l.drop (k + 1) := by
            obtain ⟨z1, z2⟩ := List.getElem?_eq_some_iff.1 hx
            rw [← z2, List.drop_eq_getElem_cons z1]
          have hrr := HRR.out
          rw [hdr, goM] at hrr
          have hod : dd.length ≤ 140737488355328 := Nat.le_trans (HSM.out _ (List.mem_of_getElem? hx)) (by decide)
          have hgs := HGD.out.step (kd, s, t, dd)
          obtain ⟨wb, hwb⟩ : ∃ wb, wb = wr.alloc (.cells [.int .i64 kd, .string (bstr s), .string (bstr t), .string (bstr dd)].toArray 48) := ⟨_, rfl⟩
          have hbw : Below wr.heap.size wr wb := by rw [hwb]; exact bl_alloc (bl_refl wr) _
          have HAP := papply_any _ d (kd, s, t, dd) k wb (HD1.out.below hbw) HGD.out.2 (by omega) hod
          obtain ⟨x, hxx⟩ : ∃ x, x = applyM d (kd, s, t, dd) := ⟨_, rfl⟩
          rw [← hxx] at HAP hrr hgs
          have HX := hide HAP
          have HGS := hide hgs
          have HRX := hide hrr
          have AB2 := hide (AB.out.below hbw)
          have AI2 := hide (AI.out.below hbw)
          have DB2 := hide (DB.out.below hbw)
          have D2 := hide (D1.out.below hbw)
          have RB2 := hide (RB.out.below hbw)
          have LB2 := hide (bl_trans LB.out hbw)
          have HWB := hide hwb.symm
          clear hwb hbw HAP hgs hrr hdr hxx hod hx HRR AB AI DB D1 HD1 RB LB xy0 xy1 xy2 xy3 xl
          go_wp2_with fail
          rw [HWB.out]
          clear HWB yy0 yy1 yy2 yy3 yl p0 p1 p2 p3
          refine HX.out.mono ?_
          rintro e w5 ⟨u, rfl, hu, hb5⟩
          obtain ⟨e1, f1, g1, e2, f2, g2, e3, f3, g3, e4, f4, g4, rfl⟩ := hu.four
          obtain ⟨wc, hwc⟩ : ∃ wc, wc = w5.alloc (.cells [.slice e1 f1 g1, .slice e2 f2 g2, .slice e3 f3 g3, .slice e4 f4 g4].toArray 27) := ⟨_, rfl⟩
          have hbw : Below w5.heap.size w5 wc := by rw [hwc]; exact bl_alloc (bl_refl w5) _
          have hba := bl_trans hb5 hbw
          have XI := hide (hu.below hbw)
          have AB3 := hide (AB2.out.below hba)
          have AI3 := hide (AI2.out.below hba)
          have DB3 := hide (DB2.out.below hba)
          have RB3 := hide (RB2.out.below hba)
          have LB3 := hide (bl_trans LB2.out hba)
          have D5 := hide (D2.out.below hb5)
          have A5 := hide (AB2.out.below hb5)
          have X5 := hide hu
          have I5 := hide (AI2.out.below hb5)
          have DX5 := hide (DB2.out.below hb5)
          have R5 := hide (RB2.out.below hb5)
          have L5 := hide (bl_trans LB2.out hb5)
          have xy0 : w5.cell? ⟨A, 0, none⟩ = some _ := A5.out.cell rfl
          have xy1 : w5.cell? ⟨A, 1, none⟩ = some _ := A5.out.cell rfl
          have xy2 : w5.cell? ⟨A, 2, none⟩ = some _ := A5.out.cell rfl
          have xy3 : w5.cell? ⟨A, 3, none⟩ = some _ := A5.out.cell rfl
          have xl := A5.out.lt
          have yy0 : w5.cell? ⟨A + 1, 0, none⟩ = some _ := D5.out.cell rfl
          have yy1 : w5.cell? ⟨A + 1, 1, none⟩ = some _ := D5.out.cell rfl
          have yy2 : w5.cell? ⟨A + 1, 2, none⟩ = some _ := D5.out.cell rfl
          have yy3 : w5.cell? ⟨A + 1, 3, none⟩ = some _ := D5.out.cell rfl
          have yl := D5.out.lt
          have yf := D5.out.fr
          obtain ⟨xn, hxn⟩ : ∃ xn, xn = x.2 := ⟨_, rfl⟩
          rw [← hxn] at HRX ⊢
          have HXN := hide hxn
          have HWC := hide hwc.symm
          clear hwc hbw hba hu hb5 hxn HX
          by_cases hxz : xn = 0
          · subst hxz
            go_wp2
            go_roundw
            case rel =>
              have hb := fun (wx : World) => bl_alloc (bl_refl wx) (.cells [.slice e1 f1 g1, .slice e2 f2 g2, .slice e3 f3 g3, .slice e4 f4 g4].toArray 27)
              refine ⟨k + 1, x.1, by go_num, by omega, hide ?_, hide ?_, hide ?_, HGS, hide ?_, hide ?_, hide ?_⟩
              · exact (A5.out.set4ne (by omega) _ _ _ _).alloc _
              · exact (I5.out.set4 D5.out (allSl4 _ _ _ _ _ _ _ _ _ _ _ _) rfl rfl rfl).below (hb _)
              · exact (BxD.put DX5.out X5.out).below (hb _)
              · rw [HRX.out, if_neg (by simp)]
              · exact (RO.set4 R5.out D5.out (allSl4 _ _ _ _ _ _ _ _ _ _ _ _) rfl rfl rfl).below (hb _)
              · exact bl_alloc (bl_set4 L5.out (by omega) _ _ _ _) _
            case measure => simp [intOf]; omega
          · have hxz' : ((xn : Int) == 0) = false := by rw [beq_eq_false_iff_ne]; omega
            have hxz2 : ¬ (xn : Int) = 0 := by omega
            have hr : r = (.nil, xn) := by rw [HRX.out, if_pos hxz]
            obtain ⟨r1, r2⟩ := r
            injection hr with h1 h2
            subst h1 h2
            have hsn : szD .nil := ⟨Nat.zero_le _, Nat.zero_le _, Nat.zero_le _, Nat.zero_le _⟩
            have HS := rsame_any _ nilD _ _ wc AI3.out (isD_nil _) hsn hsn
            rw [show decide (Dsk.nil = Dsk.nil) = true by simp] at HS
            unfold nilD at HS
            have HSA := hide HS
            clear HS
            go_wp2_with fail
            rw [HWC.out]
            refine HSA.out.mono ?_
            rintro e w6 ⟨rfl, hb6⟩
            have LB6 := hide (bl_trans LB3.out hb6)
            clear hb6 HSA
            go_wp2_with fail
            refine (known_any w6).mono ?_
            rintro e w7 ⟨rfl, hb7⟩
            go_wp2
            go_ret
            exact ⟨rfl, bl_trans LB6.out hb7⟩
        · obtain rfl : k = N := by omega
          have hkn : ¬ (k : Int) < (k : Int) := by omega
          have hr : r = (d, 0) := by rw [HRR.out, List.drop_eq_nil_of_le (by rw [← HN.out]; exact Nat.le_refl _)]; rfl
          obtain ⟨r1, r2⟩ := r
          injection hr with h1 h2
          subst h1 h2
          have hsz : szK k r1 := HGD.out.2
          have HS := rsame_any _ _ _ _ wr AI.out HD1.out (hsz.szD (by omega)) (hsz.szD (by omega))
          rw [show decide (r1 = r1) = true by simp] at HS
          have HSA := hide HS
          clear HS
          go_wp2_with fail
          refine HSA.out.mono ?_
          rintro e w4 ⟨rfl, hb4⟩
          have LB4 := hide (LB.out.trans (hb4.mono LB.out.size))
          clear hb4 HSA AB AI DB RB LB D1 HD1 xy0 xy1 xy2 xy3 xl yy0 yy1 yy2 yy3 yl
          go_wp2_with fail
          refine (known_any w4).mono ?_
          rintro e w5 ⟨rfl, hb5⟩
          go_wp2
          go_ret
          exact ⟨rfl, bl_trans LB4.out hb5⟩
    · have hk0 : (0 : Int) < ((k + 1 : Nat) : Int) := by omega
      have hks : ((k + 1 : Nat) : Int) - 1 = (k : Int) := by omega
      go_wp2_with fail
      refine (op_any g wr HTP.out).mono ?_
      rintro e w2 ⟨⟨kd, s, t, dd⟩, rfl, ho, ht2, hg2⟩
      have HO2 := hide (ownG_grown HO.out hg2 (fun q hq e => by injection e with e; have := (ownG_lt HO.out hq).1; omega))
      have HT2 := hide ht2
      have HB2 := hide (bl_tape HB.out hg2 hgw)
      have HS2 := hide (Nat.le_trans HSZ.out hg2.size)
      have HOD := hide ho
      have hl10 : l.length ≤ 10 := by omega
      clear ht2 hg2 HO HTP HB HSZ ho
      unfold oV
      go_wp2_with (at_builtin; go_loud (refine wpList_append_rd _ rfl (.tmp 21) (.tmp 24) 25 rfl G 48 j0 _ 4 56 Try.underlying25 hj0 hy0 hy1 hy2 rfl (by omega) _ _ _ rfl (ownG_below HO2.out (bl_alloc (bl_refl _) _)) _ 1 _ ([(kd, s, t, dd)].flatMap encO) rfl rfl (rd_oneOG (by simp) (kd, s, t, dd) _) (encO_one _) (by simp only [maxLen]; omega) (by omega) (by have h7 := HS2.out; simp at h7 ⊢; omega) ?_); intro v8 w8 ho8 hg8 hat8)
      go_roundw
      case rel =>
        refine ⟨k, l ++ [(kd, s, t, dd)], by go_num, by simp; omega, hide ?_, hide ?_, hide ?_, hide ?_, hide ?_⟩
        · intro o ho
          rcases List.mem_append.1 ho with ho | ho
          · exact HSM.out o ho
          · simp at ho; subst ho; exact HOD.out
        · rw [List.length_append, List.flatMap_append]; exact ho8
        · exact Nat.le_trans HS2.out (Nat.le_trans (bl_alloc (bl_refl w2) _).size hg8.size)
        · exact IsTape.grown (tapeF_alloc HT2.out _) hg8 (fun j hj => by have := (ownG_lt HO2.out hj).1; omega)
        · exact bl_grown (bl_alloc HB2.out _) hg8 (fun j hj => by have := (ownG_lt HO2.out hj).1; omega)
      case measure => simp [intOf]
end diskAll
end Go.Proofs.Ytjpmfiicbokdcaa
