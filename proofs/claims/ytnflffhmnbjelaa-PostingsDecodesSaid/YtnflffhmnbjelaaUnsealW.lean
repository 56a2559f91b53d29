/- The walks of corporaref03.Seal, checksum.Unseal and corporaref03.Unseal. -/
import Derived.Test.YtnflffhmnbjelaaSealW
import Derived.Test.YtnflffhmnbjelaaApp
namespace Go.Proofs.Ytnflffhmnbjelaa
open Go.RowKit
set_option linter.unusedVariables false
set_option linter.unusedSimpArgs false

set_option maxRecDepth 100000 in
theorem rseal_any (a : Option Addr) (len cap : Nat) (l : List UInt8) (w : World) (hl : len = l.length) (hm : len ≤ 1000000) (hr : BRd w a l) :
    Calls Try.prog 41 #[.slice a len cap] w fun e w' => ∃ v, e = .returned v ∧ w'.ownsRow w.heap.size 5 1 v (len + 4) ((l ++ le32 (crc l)).map u8v) ∧ Below w.heap.size w w' := by
  have HL := hide hl
  have HR := hide hr
  clear hl hr
  obtain ⟨i0, hi0, hz0, hz1, hz2⟩ := info_parts info_u8
  obtain ⟨v, hv⟩ : ∃ v, v = crc l := ⟨_, rfl⟩
  have HV := hide hv
  have hvl := v.isLt
  have b0 := byt0 v
  have b1 := byt1 v
  have b2 := byt2 v
  have b3 := byt3 v
  clear hv
  go_enter Try.func41, Try.ntmps41
  go_wp2_with fail
  refine (rsum_any _ _ _ l _ HL.out hm HR.out).mono ?_
  rintro e w' ⟨rfl, rfl⟩
  rw [← HV.out]
  go_wp2_with (first
    | (at_builtin; refine wpList_append_rd _ rfl (.const (.slice none 0 0)) (.tmp 6) 42 rfl w.heap.size 5 i0 _ 1 1 Try.underlying42 hi0 hz0 hz1 hz2 rfl (by omega) (.slice none 0 0) 0 [] rfl (World.ownsRow_nil _ _ _ _) a len cap (l.map u8v) rfl (by simpa using HL.out.symm) HR.out (u8s_one _) (by simp only [maxLen]; omega) (by omega) (Nat.le_refl _) ?_; intro v1 w1 hown1 hg1 hat1)
    | (at_builtin; refine wpList_append_rd _ rfl (.tmp 7) (.tmp 19) 42 rfl w.heap.size 5 i0 _ 1 1 Try.underlying42 hi0 hz0 hz1 hz2 rfl (by omega) v1 (0 + len) ([] ++ l.map u8v) rfl (hown1.alloc _) _ 4 4 ((le32 v).map u8v) rfl rfl (rd_lit _ _ _ _) (u8s_one _) (by simp only [maxLen]; omega) (by omega) (by have := hg1.size; simp; omega) ?_; intro v2 w2 hown2 hg2 hat2))
  go_ret
  refine ⟨v2, rfl, ?_, ?_⟩
  · rw [← HV.out, List.map_append]
    simpa using hown2
  · have hb1 : Below w.heap.size w w1 := bl_grown (bl_refl _) hg1 (fun k h => by simp [Value.ownBlock] at h)
    exact bl_grown (bl_alloc hb1 _) hg2 (fun k h => (hown1.lt k h).1)

theorem eq_arr4 (a0 a1 a2 a3 b0 b1 b2 b3 : Int) (w : World) :
    (Op.equalIn 10000 94 (.agg #[.int .u8 a0, .int .u8 a1, .int .u8 a2, .int .u8 a3]) (.agg #[.int .u8 b0, .int .u8 b1, .int .u8 b2, .int .u8 b3])).run Try.prog w =
      .ok (a0 == b0 && a1 == b1 && a2 == b2 && a3 == b3) w := by
  have hu := Try.underlying5
  have ha := Try.isAgg5
  have hz := Try.sizeOf5
  rw [show (10000 : Nat) = 9999 + 1 from rfl, Op.equalIn]
  simp only [Sem.run_bind, run_underlying Try.underlying94, Result.andThen_ok]
  simp only [Std.Legacy.Range.forIn_eq_forIn_range', Std.Legacy.Range.size, Nat.sub_zero, Nat.add_sub_cancel, Nat.div_one, List.range'_succ, List.range'_zero, List.forIn_cons, List.forIn_nil]
  go_simp
  by_cases h0 : a0 = b0 <;> by_cases h1 : a1 = b1 <;> by_cases h2 : a2 = b2 <;> by_cases h3 : a3 = b3 <;> simp [h0, h1, h2, h3]

theorem u8_inj {a b : UInt8} : ((a.toNat : Int) == (b.toNat : Int)) = decide (a = b) := by
  rw [Bool.eq_iff_iff]
  simp
  constructor
  · intro h; exact UInt8.toNat_inj.1 (by omega)
  · rintro rfl; rfl

/-- What checksum.Unseal answers: the payload and 0, or nothing and 9. -/
def UnsealPost (w : World) (p : List UInt8) (q : List UInt8) : Ending → World → Prop := fun e w' => Below w.heap.size w w' ∧
  ((le32 (crc p) = q ∧ ∃ v, e = .returned (.tuple #[v, .int .i64 0]) ∧ w'.ownsRow w.heap.size 5 1 v p.length (p.map u8v)) ∨
   (le32 (crc p) ≠ q ∧ e = .returned (.tuple #[.slice none 0 0, .int .i64 9])))

set_option maxRecDepth 100000 in
theorem unseal_any (a : Option Addr) (n cap : Nat) (p : List UInt8) (q0 q1 q2 q3 : UInt8) (w : World) (hl : n = p.length) (hm : n ≤ 1000000) (hcap : n + 4 ≤ cap) (hr : BRd w a (p ++ [q0, q1, q2, q3])) :
    Calls Try.prog 34 #[.slice a (n + 4) cap] w (UnsealPost w p [q0, q1, q2, q3]) := by
  have HL := hide hl
  have HR := hide hr
  obtain ⟨b, o, rfl, hb, hc⟩ := hr.open_ (by simp)
  have HP := hide hl
  have HRP := hide (show BRd w (some ⟨b, o, none⟩) p by have := HR.out.take p.length; simpa using this)
  have c0 : w.cell? ⟨b, o + n, none⟩ = some (.int .u8 (q0.toNat : Int)) := hc n _ (by rw [hl]; simp [u8v])
  have c1 : w.cell? ⟨b, o + n + 1, none⟩ = some (.int .u8 (q1.toNat : Int)) := hc (n + 1) _ (by rw [hl]; simp [u8v])
  have c2 : w.cell? ⟨b, o + n + 2, none⟩ = some (.int .u8 (q2.toNat : Int)) := hc (n + 2) _ (by rw [hl]; simp [u8v])
  have c3 : w.cell? ⟨b, o + n + 3, none⟩ = some (.int .u8 (q3.toNat : Int)) := hc (n + 3) _ (by rw [hl]; simp [u8v])
  clear hl hr hc
  obtain ⟨i0, hi0, hz0, hz1, hz2⟩ := info_parts info_u8
  obtain ⟨t, ht⟩ : ∃ t : Bool, t = decide (le32 (crc p) = [q0, q1, q2, q3]) := ⟨_, rfl⟩
  have heq : ∀ w, (Op.equalIn 10000 94 (.agg #[.int .u8 ((byt (crc p) 0).toNat : Int), .int .u8 ((byt (crc p) 1).toNat : Int), .int .u8 ((byt (crc p) 2).toNat : Int), .int .u8 ((byt (crc p) 3).toNat : Int)]) (.agg #[.int .u8 (q0.toNat : Int), .int .u8 (q1.toNat : Int), .int .u8 (q2.toNat : Int), .int .u8 (q3.toNat : Int)])).run Try.prog w = .ok t w := by
    intro w
    rw [eq_arr4, ht]
    congr 1
    rw [u8_inj, u8_inj, u8_inj, u8_inj, Bool.eq_iff_iff]
    simp [le32, and_assoc]
  have HT := hide ht
  clear ht
  have h4' : ¬ (n : Int) + 4 < 4 := by omega
  have h5 : (n : Int) + 4 - 4 = n := by omega
  go_enter Try.func34, Try.ntmps34
  go_wp2_with fail
  clear h5 h4'
  have f0 : ∀ wx, CB w.drew wx → wx.cell? ⟨b, o + n, none⟩ = some (.int .u8 (q0.toNat : Int)) := fun wx h => h.cell c0
  have f1 : ∀ wx, CB w.drew wx → wx.cell? ⟨b, o + n + 1, none⟩ = some (.int .u8 (q1.toNat : Int)) := fun wx h => h.cell c1
  have f2 : ∀ wx, CB w.drew wx → wx.cell? ⟨b, o + n + 2, none⟩ = some (.int .u8 (q2.toNat : Int)) := fun wx h => h.cell c2
  have f3 : ∀ wx, CB w.drew wx → wx.cell? ⟨b, o + n + 3, none⟩ = some (.int .u8 (q3.toNat : Int)) := fun wx h => h.cell c3
  have s1 : n ≤ cap := by omega
  have s3 : (n : Int) ≤ (n : Int) + 4 := by omega
  have s2 : ¬ cap = n := by omega
  refine wp_region_K 11 (by kernel_rfl) (by kernel_rfl) (fun Q HQ => ?_)
  simp only [List.take_succ_cons, List.take_zero, List.map_cons, List.map_nil]
  repeat
    first | apply wpS_c rfl | apply wpS_gc rfl (guard_mk rfl rfl)
    focus
      intro ev wx hC hx
      (try simp [Op.operands, Call.operands, opndS, Slot.holds] at hx)
      go_simp
      try (first | exact rfl | exact ⟨Below.refl _ _, rfl⟩ | (go_at_call 54; refine (sum_any _ _ _ p _ HP.out (by omega) (HRP.out.below hC.below)).mono ?_; rintro e w' ⟨rfl, hb⟩; exact ⟨rfl, hb⟩) | (go_at_call 53; refine (bytesOf_any _ _ _ rfl).mono ?_; rintro e w' ⟨rfl, hb⟩; exact ⟨rfl, hb⟩))
      done
    dsimp only [setS, List.set]
  refine wpS_nil (HQ _ fun w3 hC3 => ?_)
  simp only [closeS, List.drop_succ_cons, List.drop_zero, List.drop_nil]
  clear HQ f0 f1 f2 f3 heq
  have hb3 := hC3.below
  cases t
  · go_wp2
    go_ret2
    exact ⟨hb3, .inr ⟨by have := HT.out; simpa using this, rfl⟩⟩
  · have own0 : ∀ (w : World), (w.alloc (.cells #[] 5)).ownsRow w.heap.size 5 1 (.slice (some ⟨w.heap.size, 0, none⟩) 0 0) 0 [] := fun w => own_empty (Nat.le_refl _) (heap_alloc_new w _)
    go_wp2_with (at_builtin; refine wpList_append_rd _ rfl (.tmp 22) (.tmp 25) 42 rfl w3.heap.size 5 i0 _ 1 1 Try.underlying42 hi0 hz0 hz1 hz2 rfl (by omega) (.slice (some ⟨w3.heap.size, 0, none⟩) 0 0) 0 [] rfl (own0 w3) (some ⟨b, o, none⟩) n cap (p.map u8v) rfl (by simpa using HP.out.symm) ((HRP.out.below hb3).alloc _) (u8s_one _) (by simp only [maxLen]; omega) (by omega) (by simp) ?_; intro v2 w4 hown2 hg2 hat2)
    go_ret2
    refine ⟨bl_grown (bl_alloc hb3 _) hg2 (fun k h => by simp [Value.ownBlock] at h; have := hb3.size; omega), .inl ⟨by have := HT.out; simpa using this, v2, rfl, ?_⟩⟩
    have := own_base hown2 hb3.size
    rw [← HP.out]
    simpa using this

theorem unseal_short (a : Option Addr) (len cap : Nat) (w : World) (h : len < 4) :
    Calls Try.prog 34 #[.slice a len cap] w fun e w' => e = .returned (.tuple #[.slice none 0 0, .int .i64 10]) ∧ w = w' := by
  have h' : (len : Int) < 4 := by omega
  go_enter Try.func34, Try.ntmps34
  go_wp2
  go_ret2
  exact ⟨rfl, rfl⟩

theorem runseal_short (a : Option Addr) (len cap : Nat) (w : World) (h : len < 4) :
    Calls Try.prog 42 #[.slice a len cap] w fun e w' => e = .returned (.tuple #[.slice none 0 0, .bool false]) ∧ w = w' := by
  have h' : (len : Int) < 4 := by omega
  go_enter Try.func42, Try.ntmps42
  go_wp2
  go_ret2
  exact ⟨rfl, rfl⟩

set_option maxRecDepth 100000 in
theorem runseal_any (a : Option Addr) (n cap : Nat) (p : List UInt8) (q : List UInt8) (w : World) (hl : n = p.length) (hq : q.length = 4) (hm : n ≤ 1000000) (hcap : n + 4 ≤ cap) (hr : BRd w a (p ++ q)) :
    Calls Try.prog 42 #[.slice a (n + 4) cap] w fun e w' => Below w.heap.size w w' ∧ ∃ v, e = .returned (.tuple #[v, .bool (decide (le32 (crc p) = q))]) ∧ w'.ownsRow w.heap.size 5 1 v p.length (p.map u8v) := by
  have HQ4 := hide hq
  have HR := hide hr
  have HP := hide hl
  have HRP := hide (show BRd w a p by have := HR.out.take p.length; simpa using this)
  clear hl hr hq
  obtain ⟨i0, hi0, hz0, hz1, hz2⟩ := info_parts info_u8
  obtain ⟨t, ht⟩ : ∃ t : Bool, t = decide (le32 (crc p) = q) := ⟨_, rfl⟩
  have hcmp : (p ++ le32 (crc p) == p ++ q) = t := by
    rw [ht, Bool.eq_iff_iff]
    simp
  have HT := hide ht
  clear ht
  have h4' : ¬ (n : Int) + 4 < 4 := by omega
  have h5 : (n : Int) + 4 - 4 = n := by omega
  have s1 : n ≤ cap := by omega
  go_enter Try.func42, Try.ntmps42
  go_wp2_with fail
  clear h5 h4'
  refine wp_region_K 10 (by kernel_rfl) (by kernel_rfl) (fun Q HQ => ?_)
  simp only [List.take_succ_cons, List.take_zero, List.map_cons, List.map_nil]
  have k1 := fun (wx : World) (h : CB w.drew wx) => run_bytes_str (P := Try.prog) wx 42 9 5 a (n + 4) cap (p ++ q) Try.underlying42 Try.underlying5 Try.underlying9 (by rw [List.length_append, HP.out, HQ4.out]) (HR.out.below h.below)
  obtain ⟨s, hs⟩ : ∃ s, s = p ++ le32 (crc p) := ⟨_, rfl⟩
  rw [← hs] at hcmp
  have HS := hide hs
  clear hs
  repeat
    first | apply wpS_c rfl | apply wpS_gc rfl (guard_mk rfl rfl)
    focus
      intro ev wx hC hx
      (try simp [Op.operands, Call.operands, opndS, Slot.holds] at hx)
      go_simp
      try (first | exact rfl | exact ⟨Below.refl _ _, rfl⟩)
      done
    dsimp only [setS, List.set]
  refine wpS_p rfl (stab_fresh w.heap.size 5 n (p.map u8v)) (opS_append_nil (.const (.slice none 0 0)) (.tmp 13) 42 rfl w.heap.size 5 i0 _ 1 Try.underlying42 hi0 hz0 hz1 hz2 rfl a n cap (p.map u8v) (by simpa using HP.out.symm) (u8s_one _) rfl rfl (fun wx h => ⟨HRP.out.below h.below, h.below.size⟩) (by simp only [maxLen]; omega) (by omega)) ?_
  dsimp only [setS, List.set]
  repeat
    first | apply wpS_c rfl | apply wpS_gc rfl (guard_mk rfl rfl)
    focus
      intro ev wx hC hx
      (try simp [Op.operands, Call.operands, opndS, Slot.holds] at hx)
      go_simp
      try (first | exact rfl | exact ⟨Below.refl _ _, rfl⟩)
      done
    dsimp only [setS, List.set]
  refine wpS_p (R := FreshRow w.heap.size 5 (n + 4) (s.map u8v)) rfl (stab_fresh _ _ _ _) ?_ ?_
  focus
    intro ev wx hC hx
    (try simp [Op.operands, Call.operands, opndS, Slot.holds] at hx)
    go_simp
    refine (rseal_any _ _ _ p _ HP.out (by omega) (HRP.out.below hC.below)).mono ?_
    rintro e w' ⟨v, rfl, hown, hb⟩
    rw [← HS.out] at hown
    exact ⟨v, rfl, hb, Nat.le_trans hC.below.size hb.size, own_base hown hC.below.size⟩
  dsimp only [setS, List.set]
  refine wpS_c rfl (opS_str_fresh (.tmp 16) 42 9 5 rfl Try.underlying42 Try.underlying5 Try.underlying9 w.heap.size (n + 4) s rfl) ?_
  dsimp only [setS, List.set]
  repeat
    first | apply wpS_c rfl | apply wpS_gc rfl (guard_mk rfl rfl)
    focus
      intro ev wx hC hx
      (try simp [Op.operands, Call.operands, opndS, Slot.holds] at hx)
      go_simp
      try (first | exact rfl | exact ⟨Below.refl _ _, rfl⟩)
      done
    dsimp only [setS, List.set]
  refine wpS_p rfl (stab_fresh w.heap.size 5 n (p.map u8v)) (opS_assign_p (.tmp 14) rfl _ rfl) ?_
  dsimp only [setS, List.set]
  repeat
    first | apply wpS_c rfl | apply wpS_gc rfl (guard_mk rfl rfl)
    focus
      intro ev wx hC hx
      (try simp [Op.operands, Call.operands, opndS, Slot.holds] at hx)
      go_simp
      try (first | exact rfl | exact ⟨Below.refl _ _, rfl⟩)
      done
    dsimp only [setS, List.set]
  refine wpS_nil (HQ _ fun w3 hC3 => ?_)
  simp only [closeS, List.drop_succ_cons, List.drop_zero, List.drop_nil]
  clear HQ k1 hcmp
  rintro v0 ⟨_, hv0⟩ v1 ⟨_, hv1⟩ v2 ⟨_, hv2⟩
  have hb3 := hC3.below
  go_wp2
  go_ret2
  exact ⟨hb3, v0, by rw [← HT.out]; rfl, by rw [← HP.out]; exact hv0⟩
end Go.Proofs.Ytnflffhmnbjelaa
