/- The walk of DiskNames. -/
import Derived.Test.YtjpmfiicbokdcaaFdW
namespace Go.Proofs.Ytjpmfiicbokdcaa
open Go.RowKit
set_option linter.unusedVariables false
set_option linter.unusedSimpArgs false
theorem str_of (S : ByteArray) : ∃ s, S = bstr s := ⟨S.data.toList, by cases S; rfl⟩
theorem listM_get {d : Dsk} (h : validM d = true) (k : Nat) : (listM d)[k]? = (d.dir[k]?).map (·.1) := by unfold listM; rw [if_pos h]; simp
theorem list_has {d : Dsk} (h : validM d = true) (s : List UInt8) : (listM d).any (· == s) = hasM d.dir s := by unfold listM hasM; rw [if_pos h]; simp [List.any_map]; rfl
theorem list_srt {d : Dsk} (h : validM d = true) {k : Nat} {s t : List UInt8} (hs : (listM d)[k]? = some s) (ht : (listM d)[k + 1]? = some t) : nlt s t = true := by
  rw [listM_get h] at hs ht
  cases he : d.dir[k]? with
  | none => rw [he] at hs; cases hs
  | some e =>
    cases hf : d.dir[k + 1]? with
    | none => rw [hf] at ht; cases ht
    | some f =>
      rw [he] at hs; rw [hf] at ht
      injection hs with hs; injection ht with ht
      subst hs; subst ht
      have h1 := srt_dir ((valid_iff d).1 h).1
      obtain ⟨p1, q1⟩ := List.getElem?_eq_some_iff.1 he
      obtain ⟨p2, q2⟩ := List.getElem?_eq_some_iff.1 hf
      have := List.pairwise_iff_getElem.1 h1 k (k + 1) p1 p2 (by omega)
      rwa [q1, q2] at this
theorem read_has {d : Dsk} (h : validM d = true) {s : List UInt8} (hs : hasM d.dir s = true) : (readM d s).2 = 0 := by unfold readM; rw [h, hs]; rfl
theorem read_no {d : Dsk} (h : validM d = true) {s : List UInt8} (hs : hasM d.dir s = false) : (readM d s).2 = 11 := by unfold readM; rw [h, hs]; rfl
theorem has_get {d : Dsk} (h : validM d = true) {k : Nat} {s : List UInt8} (hs : (listM d)[k]? = some s) : hasM d.dir s = true := by
  rw [← list_has h]
  exact List.any_eq_true.2 ⟨s, List.mem_of_getElem? hs, by simp⟩
theorem encS_get (l : List (List UInt8)) (k : Nat) : (encS l)[k]? = (l[k]?).map fun s => .string (bstr s) := by simp [encS]
namespace diskNames
set_option maxHeartbeats 4000000 in
set_option maxRecDepth 100000 in
theorem walk (a : Option Addr) (len cap : Nat) (z : List Int) (S : ByteArray) (w : World) (w0 : IsRow .i64 w a len cap z) (hS : S.size ≤ maxLen) :
    Calls Try.prog 8 #[.slice a len cap, .string S] w fun e w' => e = .returned (.bool true) ∧ Below w.heap.size w w' := by
  obtain ⟨zs, hl, hr, hc, hm, _, _⟩ := w0.ints
  have HL := hide hl.symm
  have HR := hide hr
  clear hl hr w0 hS
  obtain ⟨ps, rfl⟩ := str_of S
  go_enter Try.func8, Try.ntmps8
  by_cases h50 : 50 < ps.length
  · have h50' : (50 : Int) < ((bstr ps).size : Int) := by rw [bstr_size]; omega
    go_wp2
    go_ret
    exact ⟨rfl, bl_refl w⟩
  have h50' : ¬ (50 : Int) < ((bstr ps).size : Int) := by rw [bstr_size]; omega
  go_wp2_with fail
  refine (tnew_any a len cap zs w HL.out hc hm HR.out).mono ?_
  rintro e w1 ⟨rfl, ht1, hb1⟩
  have HT1 := hide ht1
  have HB1 := hide hb1
  clear ht1 hb1
  go_wp2_with fail
  refine (build_any w.heap.size 12 12 w1 rfl (by decide) HT1.out).mono ?_
  rintro e w2 ⟨u, d, rfl, hu, hgd, hg2⟩
  obtain ⟨a1, n1, c1, a2, n2, c2, a3, n3, c3, a4, n4, c4, rfl⟩ := hu.four
  obtain ⟨wa, hwa⟩ : ∃ wa, wa = w2.alloc (.cells [.slice a1 n1 c1, .slice a2 n2 c2, .slice a3 n3 c3, .slice a4 n4 c4].toArray 27) := ⟨_, rfl⟩
  obtain ⟨D, hD⟩ : ∃ D, D = w2.heap.size := ⟨_, rfl⟩
  have DB := hide (show Blk wa D [.slice a1 n1 c1, .slice a2 n2 c2, .slice a3 n3 c3, .slice a4 n4 c4] 27 by rw [hwa, hD]; exact Blk.new w2 _ _)
  have DI := hide (show IsD wa _ d by rw [hwa]; exact hu.below (bl_alloc (bl_refl w2) _))
  have LB := hide (show Below w.heap.size w wa by rw [hwa]; exact bl_alloc (bl_tape HB1.out hg2 (Nat.le_refl _)) _)
  have HGD := hide hgd
  have HDD := hide hD.symm
  have HWA := hide hwa.symm
  clear hu hgd hg2 hwa hD HT1 HB1
  go_wp2_with fail
  rw [HWA.out, HDD.out]
  clear HWA HDD
  refine (list_any _ d wa DI.out (HGD.out.2.szD (by decide))).mono ?_
  rintro e w3 ⟨u, rfl, hown, hb3⟩
  obtain ⟨b, q, rfl, hq, hrd⟩ := ownG_form hown
  obtain ⟨N, hN⟩ : ∃ N, N = (listM d).length := ⟨_, rfl⟩
  rw [← hN] at hq ⊢
  have HN := hide hN
  have hNs : N ≤ 1000 := by
    rw [hN]; unfold listM; split
    · have := HGD.out.2.2.1; rw [List.length_map]; omega
    · exact Nat.zero_le _
  have HRD := hide hrd
  have DB3 := hide (DB.out.below hb3)
  have DI3 := hide (DI.out.below hb3)
  have LB3 := hide (bl_trans LB.out hb3)
  clear hown hrd hb3 hN DB DI LB hq
  go_wp2_with fail
  go_loopw [7, 24] (fun iv kv wr => ∃ (k : Nat) (inn : Bool), kv = .int .i64 (k : Int) ∧ k ≤ N ∧ iv = .bool inn ∧ Hid (inn = ((listM d).take k).any (· == ps)) ∧ Hid (Blk wr D [.slice a1 n1 c1, .slice a2 n2 c2, .slice a3 n3 c3, .slice a4 n4 c4] 27) ∧ Hid (IsD wr (.agg #[.slice a1 n1 c1, .slice a2 n2 c2, .slice a3 n3 c3, .slice a4 n4 c4]) d) ∧ Hid (Rd wr b (encS (listM d))) ∧ Hid (Below w.heap.size w wr)) (fun _ kv _ => N - (intOf kv).toNat)
  case atStart => exact ⟨0, false, rfl, by omega, rfl, hide rfl, DB3, DI3, HRD, LB3⟩
  case round =>
    clear DB3 DI3 HRD LB3
    obtain ⟨k, inn, rfl, hk, rfl, HIN, DB, DI, HRD, LB⟩ := hrel
    have xy0 : wr.cell? ⟨D, 0, none⟩ = some _ := DB.out.cell rfl
    have xy1 : wr.cell? ⟨D, 1, none⟩ = some _ := DB.out.cell rfl
    have xy2 : wr.cell? ⟨D, 2, none⟩ = some _ := DB.out.cell rfl
    have xy3 : wr.cell? ⟨D, 3, none⟩ = some _ := DB.out.cell rfl
    have xl := DB.out.lt
    by_cases hlt : k < N
    · obtain ⟨s, hs⟩ : ∃ s, (listM d)[k]? = some s := ⟨_, List.getElem?_eq_getElem (by rw [← HN.out]; exact hlt)⟩
      obtain ⟨gb, o, rfl, hgl, e0⟩ := HRD.out.at_ (show (encS (listM d))[k]? = some (.string (bstr s)) by rw [encS_get, hs]; rfl)
      have hkn : (k : Int) < (N : Int) := by omega
      have hRE := read_any _ d s wr DI.out (HGD.out.2.szD (by decide))
      have h0 : (readM d s).2 = 0 := read_has HGD.out.1 (has_get HGD.out.1 hs)
      rw [h0] at hRE
      have HRE := hide hRE
      have HIN2 := hide (show (inn || s == ps) = ((listM d).take (k + 1)).any (· == ps) by rw [HIN.out, List.take_add_one, hs]; simp)
      obtain ⟨m, hm2⟩ : ∃ m, m = (s == ps) := ⟨_, rfl⟩
      rw [← hm2] at HIN2
      have hm2' := hm2.symm
      have HS := hide hs
      clear hs hRE h0 HIN hm2
      by_cases hk0 : k = 0
      · have hk0' : ¬ (0 : Int) < (k : Int) := by omega
        clear hk0
        cases inn with
        | false =>
          go_wp2_with fail
          refine HRE.out.mono ?_
          rintro e w4 ⟨rfl, hb4⟩
          have DB4 := hide (DB.out.below hb4)
          have DI4 := hide (DI.out.below hb4)
          have RD4 := hide (HRD.out.below hb4)
          have LB4 := hide (LB.out.trans (hb4.mono LB.out.size))
          clear hb4 DB DI HRD LB HRE xy0 xy1 xy2 xy3 xl e0
          go_wp2
          go_roundw
          case rel => exact ⟨k + 1, _, by go_num, by omega, rfl, HIN2, DB4, DI4, RD4, LB4⟩
          case measure => simp [intOf]; omega
        | true =>
          go_wp2_with fail
          refine HRE.out.mono ?_
          rintro e w4 ⟨rfl, hb4⟩
          have DB4 := hide (DB.out.below hb4)
          have DI4 := hide (DI.out.below hb4)
          have RD4 := hide (HRD.out.below hb4)
          have LB4 := hide (LB.out.trans (hb4.mono LB.out.size))
          clear hb4 DB DI HRD LB HRE xy0 xy1 xy2 xy3 xl e0
          go_wp2
          go_roundw
          case rel => exact ⟨k + 1, _, by go_num, by omega, rfl, HIN2, DB4, DI4, RD4, LB4⟩
          case measure => simp [intOf]; omega
      · obtain ⟨k1, rfl⟩ : ∃ k1, k = k1 + 1 := ⟨k - 1, by omega⟩
        obtain ⟨p, hp⟩ : ∃ p, (listM d)[k1]? = some p := ⟨_, List.getElem?_eq_getElem (by rw [← HN.out]; omega)⟩
        obtain ⟨gb', o', hg', -, e1⟩ := HRD.out.at_ (show (encS (listM d))[k1]? = some (.string (bstr p)) by rw [encS_get, hp]; rfl)
        injection hg' with hg'
        injection hg' with hg1 hg2
        subst hg1
        subst hg2
        have hless : Op.bytesLess p s = true := list_srt HGD.out.1 hp HS.out
        have hk0' : (0 : Int) < ((k1 + 1 : Nat) : Int) := by omega
        have hk1 : ((k1 + 1 : Nat) : Int) - 1 = (k1 : Int) := by omega
        have hkn1 : (k1 : Int) < (N : Int) := by omega
        clear hp hk0
        cases inn with
        | false =>
          go_wp2_with fail
          refine HRE.out.mono ?_
          rintro e w4 ⟨rfl, hb4⟩
          have DB4 := hide (DB.out.below hb4)
          have DI4 := hide (DI.out.below hb4)
          have RD4 := hide (HRD.out.below hb4)
          have LB4 := hide (LB.out.trans (hb4.mono LB.out.size))
          clear hb4 DB DI HRD LB HRE xy0 xy1 xy2 xy3 xl e0
          go_wp2
          go_roundw
          case rel => exact ⟨(k1 + 1) + 1, _, by go_num, by omega, rfl, HIN2, DB4, DI4, RD4, LB4⟩
          case measure => simp [intOf]; omega
        | true =>
          go_wp2_with fail
          refine HRE.out.mono ?_
          rintro e w4 ⟨rfl, hb4⟩
          have DB4 := hide (DB.out.below hb4)
          have DI4 := hide (DI.out.below hb4)
          have RD4 := hide (HRD.out.below hb4)
          have LB4 := hide (LB.out.trans (hb4.mono LB.out.size))
          clear hb4 DB DI HRD LB HRE xy0 xy1 xy2 xy3 xl e0
          go_wp2
          go_roundw
          case rel => exact ⟨(k1 + 1) + 1, _, by go_num, by omega, rfl, HIN2, DB4, DI4, RD4, LB4⟩
          case measure => simp [intOf]; omega
    · obtain rfl : k = N := by omega
      have hkn : ¬ (k : Int) < (k : Int) := by omega
      have hRE := read_any _ d ps wr DI.out (HGD.out.2.szD (by decide))
      have hin : inn = hasM d.dir ps := by
        have h1 := HIN.out
        rw [HN.out, List.take_length] at h1
        rw [h1, list_has HGD.out.1]
      clear HIN
      cases inn with
      | false =>
        rw [read_no HGD.out.1 hin.symm] at hRE
        have HRE := hide hRE
        clear hRE hin
        go_wp2_with fail
        refine HRE.out.mono ?_
        rintro e w4 ⟨rfl, hb4⟩
        have LB4 := hide (LB.out.trans (hb4.mono LB.out.size))
        clear hb4 DB DI HRD LB HRE xy0 xy1 xy2 xy3 xl
        go_wp2_with fail
        refine (known_any w4).mono ?_
        rintro e w5 ⟨rfl, hb5⟩
        go_wp2
        go_ret
        exact ⟨rfl, bl_trans LB4.out hb5⟩
      | true =>
        rw [read_has HGD.out.1 hin.symm] at hRE
        have HRE := hide hRE
        clear hRE hin
        go_wp2_with fail
        refine HRE.out.mono ?_
        rintro e w4 ⟨rfl, hb4⟩
        have LB4 := hide (LB.out.trans (hb4.mono LB.out.size))
        clear hb4 DB DI HRD LB HRE xy0 xy1 xy2 xy3 xl
        go_wp2_with fail
        refine (known_any w4).mono ?_
        rintro e w5 ⟨rfl, hb5⟩
        go_wp2
        go_ret
        exact ⟨rfl, bl_trans LB4.out hb5⟩
end diskNames
end Go.Proofs.Ytjpmfiicbokdcaa
