/- The walk of Decode. -/
import Derived.Test.YtnflffhmnbjelaaQDpW
import Derived.Test.YtnflffhmnbjelaaUnsealW
import Derived.Test.YtnflffhmnbjelaaSlc
namespace Go.Proofs.Ytnflffhmnbjelaa
open Go.RowKit
set_option linter.unusedVariables false
set_option linter.unusedSimpArgs false
/-- What Decode answers. -/
def DecP (w : World) (o : Option (List Int)) (e : Ending) (w' : World) : Prop := Below w.heap.size w w' ∧ (o = none → e = .returned (.tuple #[.pointer none, .int .i64 9])) ∧ (∀ z, o = some z → ∃ g, e = .returned (.tuple #[.pointer (some ⟨g, 0, none⟩), .int .i64 0]) ∧ w.heap.size ≤ g ∧ LstS w' g (natsOf z))
theorem DecP.no {w w' : World} {o : Option (List Int)} {e : Ending} (hb : Below w.heap.size w w') (ho : o = none) (he : e = .returned (.tuple #[.pointer none, .int .i64 9])) : DecP w o e w' := ⟨hb, fun _ => he, fun z hz => by rw [ho] at hz; cases hz⟩
theorem DecP.ok {w w' : World} {o : Option (List Int)} {z : List Int} {g : Nat} {e : Ending} (hb : Below w.heap.size w w') (ho : o = some z) (he : e = .returned (.tuple #[.pointer (some ⟨g, 0, none⟩), .int .i64 0])) (hg : w.heap.size ≤ g) (hv : LstS w' g (natsOf z)) : DecP w o e w' := ⟨hb, fun h => by (rw [ho] at h; cases h), fun y hy => by
  rw [ho] at hy
  injection hy with hy
  subst hy
  exact ⟨g, he, hg, hv⟩⟩
theorem decV_eq (r : Nat × Nat × Nat) : decV r = .tuple #[.int .u64 (r.1 : Int), .int .i64 (r.2.1 : Int), .int .i64 (r.2.2 : Int)] := rfl
theorem gst_bd {L : List Bool} : ∀ (k at_ : Nat) (last : Int) (l : List Int), gst L k = some (at_, last, l) → (-1 ≤ last ∧ last ≤ 2147483648 * (k : Int)) ∧ (∀ x ∈ l, -1 ≤ x ∧ x ≤ 2147483648 * (k : Int)) ∧ l.length = k
  | 0, at_, last, l, h => by
    simp only [gst, Option.some.injEq, Prod.mk.injEq] at h
    obtain ⟨rfl, rfl, rfl⟩ := h
    exact ⟨by omega, by simp, rfl⟩
  | k + 1, at_, last, l, h => by
    rcases hg : gst L k with _ | ⟨a', s', l'⟩
    · rw [gst, hg] at h; cases h
    · obtain ⟨h1, h2, h3⟩ := gst_bd k a' s' l' hg
      rw [gst_some hg] at h
      split at h
      · rename_i hc
        simp only [Option.some.injEq, Prod.mk.injEq] at h
        obtain ⟨-, rfl, rfl⟩ := h
        have h4 := hc.2
        refine ⟨by omega, fun x hx => ?_, by simp [h3]⟩
        rcases List.mem_append.1 hx with h | h
        · have := h2 x h; omega
        · simp at h; subst h; omega
      · cases h
set_option maxHeartbeats 4000000 in
set_option maxRecDepth 100000 in
theorem decode_any (a : Option Addr) (n cap : Nat) (b : List UInt8) (w : World) (hn : n = b.length) (hc : n ≤ cap) (hm : n ≤ 10000) (hr : BRd w a b) :
    Calls Try.prog 21 #[.slice a n cap] w (DecP w (decQ b)) := by
  by_cases h4 : n < 4
  · have ho : decQ b = none := by unfold decQ; rw [if_pos (by omega)]
    rw [ho]
    clear hr hn ho
    go_enter Try.func21, Try.ntmps21
    go_wp2_with fail
    refine (unseal_short a n cap w h4).mono ?_
    rintro e w' ⟨rfl, rfl⟩
    go_wp2
    go_ret2
    exact .no (bl_refl w) rfl rfl
  obtain ⟨m, rfl⟩ : ∃ m, n = m + 4 := ⟨n - 4, by omega⟩
  obtain ⟨p, hp⟩ : ∃ p, p = b.take m := ⟨_, rfl⟩
  obtain ⟨q0, q1, q2, q3, hq⟩ : ∃ q0 q1 q2 q3, b.drop m = [q0, q1, q2, q3] := by
    have : (b.drop m).length = 4 := by simp; omega
    match h : b.drop m, this with
    | [q0, q1, q2, q3], _ => exact ⟨q0, q1, q2, q3, rfl⟩
  have hpl : m = p.length := by rw [hp]; simp; omega
  have hb : b = p ++ [q0, q1, q2, q3] := by rw [hp, ← hq]; exact (List.take_append_drop m b).symm
  have ho : decQ b = if le32 (crc p) = [q0, q1, q2, q3] then dec1 b p else none := by
    unfold decQ
    rw [if_neg (by omega), show b.length - 4 = m by omega, ← hp, hq]
  obtain ⟨o, hoo⟩ : ∃ o, o = decQ b := ⟨_, rfl⟩
  rw [← hoo] at ho ⊢
  have HU := hide (unseal_any a m cap p q0 q1 q2 q3 w hpl (by omega) hc (by rw [← hb]; exact hr))
  have HB := hide hb
  have HPL := hide hpl
  have HO := hide ho
  have HR := hide hr
  have HN := hide hn
  obtain ⟨i0, hi0, hz0, hz1, hz2⟩ := info_parts info_u8
  clear hp hq hpl hb ho hoo hr hn h4
  go_enter Try.func21, Try.ntmps21
  go_wp2_with fail
  refine HU.out.mono ?_
  rintro e w1 ⟨hb1, ⟨heq, v1, rfl, ho1⟩ | ⟨hne, rfl⟩⟩
  · have HO2 := hide (show o = dec1 b p by rw [HO.out, if_pos heq])
    rw [← HPL.out] at ho1
    obtain ⟨hx1, A1, c1, rfl, hc1, hr1, hx2, hx3⟩ := own_form ho1
    have HR1 := hide (show BRd w1 A1 p from hr1)
    have HB1 := hide hb1
    have HN1 := hide hx2
    clear hx1 hx2 hx3 hr1 ho1 heq hb1
    go_wp2_with fail
    refine (uvarint_any A1 m c1 p w1 HPL.out (by omega) HR1.out).mono ?_
    rintro e w' ⟨rfl, rfl⟩
    obtain ⟨⟨n1, k1, e1⟩, hd⟩ : ∃ r, r = dec 0 0 p := ⟨_, rfl⟩
    have hle := dec_le p 0 0
    have HD := hide (show dec1 b p = if e1 ≠ 0 ∨ 4096 < n1 then none else dec2 b n1 (p.drop k1) by unfold dec1; rw [← hd])
    rw [← hd, ← HPL.out] at hle
    rw [← hd, decV_eq]
    simp only [] at hle ⊢
    clear hd
    by_cases he1 : e1 = 0
    · subst he1
      by_cases h4 : 4096 < n1
      · rw [if_pos (.inr h4)] at HD
        have h4' : (4096 : Int) < (n1 : Int) := by omega
        go_wp2
        go_ret2
        exact .no HB1.out (by rw [HO2.out, HD.out]) rfl
      · rw [if_neg (by omega)] at HD
        have h4' : ¬ (4096 : Int) < (n1 : Int) := by omega
        have hk1 : k1 ≤ m := by omega
        have HK1 := hide hk1
        have HC1 := hide hc1
        clear hle hk1 hc1
        go_wp2_with (refine wpList_slice_lo rfl (.tmp 31) (.tmp 32) 42 rfl Try.underlying42 i0 hi0 hz1 A1 m c1 k1 .i64 _ rfl rfl rfl HK1.out HC1.out HN1.out (p.map u8v) HR1.out (by rw [List.length_map]; exact HPL.out.symm) ?_; intro A2 c2 hr2 hc2 hc2b hn2 hp2)
        obtain ⟨m2, hm2⟩ : ∃ m2, m2 = m - k1 := ⟨_, rfl⟩
        rw [← hm2] at hc2 ⊢
        obtain ⟨p2, hp2e⟩ : ∃ p2, p2 = p.drop k1 := ⟨_, rfl⟩
        have HR2 := hide (show BRd w1 A2 p2 by rw [← List.map_drop] at hr2; exact hp2e ▸ hr2)
        have HP2 := hide hp2e
        have HM2 := hide (show m2 = p2.length by rw [hp2e, List.length_drop, ← HPL.out]; first | done | exact hm2)
        have HN2 := hide hn2
        have hm2m : m2 ≤ m := by omega
        clear hr2 hn2 hp2 hm2 hp2e hc2b
        rw [← HP2.out] at HD
        refine (uvarint_any A2 m2 c2 p2 w1 HM2.out (by omega) HR2.out).mono ?_
        rintro e w' ⟨rfl, rfl⟩
        obtain ⟨⟨n2, k2, e2⟩, hd⟩ : ∃ r, r = dec 0 0 p2 := ⟨_, rfl⟩
        have hle := dec_le p2 0 0
        have HD2 := hide (show dec2 b n1 p2 = if e2 ≠ 0 ∨ 8 * (m2 - k2) < n2 then none else dec3 b n1 (unpackL (p2.drop k2) n2) by unfold dec2; rw [← hd, ← HM2.out])
        rw [← hd, ← HM2.out] at hle
        rw [← hd, decV_eq]
        simp only [] at hle ⊢
        clear hd
        by_cases he2 : e2 = 0
        · subst he2
          by_cases h8 : 8 * m2 < n2
          · rw [if_pos (.inr (by omega))] at HD2
            have h8' : (8 : Int) * (m2 : Int) < (n2 : Int) := by omega
            have ew : IntKind.u64.wrap ((8 : Int) * (m2 : Int)) = (8 : Int) * (m2 : Int) := by rw [IntKind.wrap_u64]; omega
            go_wp2
            go_ret2
            exact .no HB1.out (by rw [HO2.out, HD.out, HD2.out]) rfl
          · have h8' : ¬ (8 : Int) * (m2 : Int) < (n2 : Int) := by omega
            have ew : IntKind.u64.wrap ((8 : Int) * (m2 : Int)) = (8 : Int) * (m2 : Int) := by rw [IntKind.wrap_u64]; omega
            have en1 : IntKind.i64.wrap (n1 : Int) = (n1 : Int) := by rw [IntKind.wrap_i64]; omega
            have en2 : IntKind.i64.wrap (n2 : Int) = (n2 : Int) := by rw [IntKind.wrap_i64]; omega
            have hk2 : k2 ≤ m2 := by omega
            have HK2 := hide hk2
            have HC2 := hide hc2
            clear hle hk2 hc2
            go_wp2_with (refine wpList_slice_lo rfl (.tmp 51) (.tmp 52) 42 rfl Try.underlying42 i0 hi0 hz1 A2 m2 c2 k2 .i64 _ rfl rfl rfl HK2.out HC2.out HN2.out (p2.map u8v) HR2.out (by rw [List.length_map]; exact HM2.out.symm) ?_; intro A3 c3 hr3 hc3 hc3b hn3 hp3)
            obtain ⟨m3, hm3⟩ : ∃ m3, m3 = m2 - k2 := ⟨_, rfl⟩
            rw [← hm3] at hc3 HD2 ⊢
            obtain ⟨p3, hp3e⟩ : ∃ p3, p3 = p2.drop k2 := ⟨_, rfl⟩
            have HR3 := hide (show BRd w1 A3 p3 by rw [← List.map_drop] at hr3; exact hp3e ▸ hr3)
            have HP3 := hide hp3e
            have HM3 := hide (show m3 = p3.length by rw [hp3e, List.length_drop, ← HM2.out]; first | done | exact hm3)
            have hm3m : m3 ≤ m2 := by omega
            clear hr3 hn3 hp3 hm3 hp3e hc3b
            rw [← HP3.out] at HD2
            refine (positions_any A3 m3 c3 p3 n2 n1 w1 HM3.out hc3 (by omega) HR3.out (by omega) (by omega)).mono ?_
            rintro e w2 ⟨hb2, hno, hyes⟩
            have HB2 := hide (HB1.out.trans (hb2.mono HB1.out.size))
            cases hpo : posO m3 n2 n1 p3 with
            | none =>
              obtain rfl := hno hpo
              have HO3 := hide (show o = none by
                rw [HO2.out, HD.out, HD2.out]
                by_cases h3 : 8 * m3 < n2
                · rw [if_pos (.inr h3)]
                · rw [if_neg (by omega)]
                  unfold posO at hpo
                  rw [if_neg h3, Option.map_eq_none_iff] at hpo
                  unfold dec3
                  rw [hpo])
              clear hno hyes hb2 hpo
              go_wp2
              go_ret2
              exact .no HB2.out HO3.out rfl
            | some z =>
              obtain ⟨v3, rfl, ho3⟩ := hyes z hpo
              have h3 : ¬ 8 * m3 < n2 := fun h3 => by unfold posO at hpo; rw [if_pos h3] at hpo; cases hpo
              obtain ⟨⟨s1, s2, s3⟩, hs, hsz⟩ : ∃ s, gst (unpackL p3 n2) n1 = some s ∧ s.2.2 = z := by
                unfold posO at hpo
                rw [if_neg h3, Option.map_eq_some_iff] at hpo
                exact hpo
              have hsz : s3 = z := hsz
              subst hsz
              have HO3 := hide (show o = if chkL s3 = 0 ∧ encQ (natsOf s3) = b then some s3 else none by
                rw [HO2.out, HD.out, HD2.out, if_neg (by omega)]
                unfold dec3
                rw [hs])
              obtain ⟨-, hbd, hsl⟩ := gst_bd n1 s1 s2 s3 hs
              have HZ := hide (show ∀ x ∈ s3, (Lit.int .i64 x).wf = true from fun x hx => by
                have := hbd x hx
                exact WalkArith.wf_i64 ⟨by omega, by omega⟩)
              obtain ⟨hy1, A4, c4, rfl, hc4, hr4, hy2, hy3⟩ := own_form ho3
              have HI4 := hide (show IsI w2 A4 n1 s3 from ⟨hsl.symm, hr4⟩)
              clear hy1 hy2 hy3 hr4 ho3 hno hyes hb2 hpo hs hbd hsl h3
              go_wp2_with fail
              refine (build_any A4 n1 c4 s3 w2 HI4.out HZ.out).mono ?_
              rintro e w3 ⟨g1, g2, hb3⟩
              have HB3 := hide (HB2.out.trans (hb3.mono HB2.out.size))
              by_cases hck : chkL s3 = 0
              · obtain ⟨g, rfl, hg, hs3⟩ := g2 hck
                have HS3 := hide hs3
                have HG := hide (show w.heap.size ≤ g from Nat.le_trans HB2.out.size hg)
                have HCK := hide hck
                clear g1 g2 hb3 hs3 hg hck
                go_wp2_with fail
                refine (encode_any g (natsOf s3) w3 HS3.out (okQ_of HCK.out) (by rw [natsOf_length]; exact ((chkL_zero _).1 HCK.out).1)).mono ?_
                rintro e w4 ⟨v4, n4, rfl, hn4, ho4, hb4⟩
                obtain ⟨hy1, A5, c5, rfl, hc5, hr5, hy2, hy3⟩ := own_form ho4
                have HR5 := hide (show BRd w4 A5 (encQ (natsOf s3)) from hr5)
                have HN5 := hide (show n4 = (encQ (natsOf s3)).length by rw [hy1, List.length_map])
                have HB4 := hide (HB3.out.trans (hb4.mono HB3.out.size))
                have HS4 := hide (HS3.out.below hb4)
                clear hy1 hy2 hy3 hr5 ho4 hb4
                go_wp2_with fail
                refine (equal_any A5 a n4 c5 (m + 4) cap (encQ (natsOf s3)) b w4 HN5.out HN.out HR5.out (HR.out.below HB4.out)).mono ?_
                rintro e w' ⟨rfl, rfl⟩
                by_cases heq : encQ (natsOf s3) = b
                · have HO4 := hide (show o = some s3 by rw [HO3.out, if_pos ⟨HCK.out, heq⟩])
                  have e5 : (encQ (natsOf s3) == b) = true := by rw [beq_iff_eq]; exact heq
                  rw [e5]
                  clear heq e5
                  go_wp2
                  go_ret2
                  exact .ok HB4.out HO4.out rfl HG.out HS4.out
                · have HO4 := hide (show o = none by rw [HO3.out, if_neg (fun h => heq h.2)])
                  have e5 : (encQ (natsOf s3) == b) = false := by rw [beq_eq_false_iff_ne]; exact heq
                  rw [e5]
                  clear heq e5
                  go_wp2
                  go_ret2
                  exact .no HB4.out HO4.out rfl
              · have HO4 := hide (show o = none by rw [HO3.out, if_neg (fun h => hck h.1)])
                obtain rfl := g1 hck
                obtain ⟨ei, hei⟩ : ∃ ei : Int, ei = ((chkL s3 : Nat) : Int) := ⟨_, rfl⟩
                have h0i : (ei == 0) = false := by rw [beq_eq_false_iff_ne]; omega
                have h0j : (ei != 0) = true := by simp only [bne, h0i]; rfl
                rw [← hei]
                clear hei g1 g2 hck hb3
                go_wp2
                go_ret2
                exact .no HB3.out HO4.out rfl
        · rw [if_pos (.inl he2)] at HD2
          obtain ⟨ei, hei⟩ : ∃ ei : Int, ei = (e2 : Int) := ⟨_, rfl⟩
          have h0i : (ei == 0) = false := by rw [beq_eq_false_iff_ne]; omega
          have h0j : (ei != 0) = true := by simp only [bne, h0i]; rfl
          rw [← hei]
          clear hei
          go_wp2
          go_ret2
          exact .no HB1.out (by rw [HO2.out, HD.out, HD2.out]) rfl
    · rw [if_pos (.inl he1)] at HD
      obtain ⟨ei, hei⟩ : ∃ ei : Int, ei = (e1 : Int) := ⟨_, rfl⟩
      have h0i : (ei == 0) = false := by rw [beq_eq_false_iff_ne]; omega
      have h0j : (ei != 0) = true := by simp only [bne, h0i]; rfl
      rw [← hei]
      clear hei
      go_wp2
      go_ret2
      exact .no HB1.out (by rw [HO2.out, HD.out]) rfl
  · have HO2 := hide (show o = none by rw [HO.out, if_neg hne])
    clear hne
    go_wp2
    go_ret2
    exact .no hb1 HO2.out rfl
end Go.Proofs.Ytnflffhmnbjelaa
